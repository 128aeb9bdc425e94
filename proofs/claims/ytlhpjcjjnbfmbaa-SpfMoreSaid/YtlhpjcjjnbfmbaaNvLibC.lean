/- Part of the proof of SpfMore: the library of walks. No condition. -/
import Derived.Test.YtlhpjcjjnbfmbaaNvLibB
import Derived.KernelRfl
import Derived.Shelf.SlSortCmp.WholeK
import Derived.Lib.QuietBelow
import Derived.Shelf.SlSortCmp.NoneTotal
namespace Nv
open Go Go.RowKit
end Nv
namespace Nv
open Go Go.RowKit
end Nv
namespace Nv
open Go Go.RowKit
def ct (p0 p : Nat) (zs fs : Nat → List D) (listed : Array Bool) (k : Nat) : List D := bif listed.getD (k + (p - p0)) false then fs k else zs k
end Nv
namespace Nv
open Go Go.RowKit
structure GInv (F : Fr) (nt : Nat) (ops : Array Oper) (H0 : List Ob) (p0 p : Nat) (zs fs : Nat → List D) (V : Nat → D) (env0 : List (Nat × D)) (listed : Array Bool) (a : Act) (c : Ctx) : Prop where
  H : ∃ X, c.H = H0 ++ X ∧ X.all ngone = true
  inv : Inv F c
  env : ∀ t, GV (yielded ops a.tmps) c (a.tmps.getD t undef) (valL ops (V1 p0 V) env0 (fun i => listed.getD i false = true) t)
  fl : ∃ fid : Nat → Nat, (∀ k, p0 ≤ k → k < p → listed.getD k false = true → H0.length ≤ fid k ∧ c.H[fid k]? = some (.box (ct p0 p zs fs listed k)) ∧ ∀ t, (ops[k]?).bind (·.dst) = some t → TV c (a.tmps.getD t undef) (.ref (fid k) 0)) ∧
    ∀ k l, p0 ≤ k → k < p → p0 ≤ l → l < p → listed.getD k false = true → listed.getD l false = true → fid k = fid l → k = l
  size : a.tmps.size = nt
  defers : a.defers = []
  opt : ∀ t j w d, valL ops (V1 p0 V) env0 (fun i => listed.getD i false = true) t = .opt j w d → listed.getD j false = true
  lsize : listed.size = ops.size
  closed : ∀ i j, Waits ops i j → listed.getD i false = true → listed.getD j false = true
end Nv
namespace Nv
open Go Go.RowKit
end Nv
namespace Nv
open Go Go.RowKit
def cleanO (id : Nat) : Ob → Bool
  | .box cells => cells.all fun d => !mc id d
  | _ => true
theorem purgeO_clean {id : Nat} {o : Ob} (h : cleanO id o = true) : purgeO id o = o := by
  cases o with
  | box cells =>
    simp only [cleanO, List.all_eq_true, Bool.not_eq_true'] at h
    simp only [purgeO, Ob.box.injEq]
    conv => rhs; rw [← List.map_id cells]
    apply List.map_congr_left
    intro d hd
    rw [h d hd]; rfl
  | _ => rfl
theorem appD_new {P : Program} {H : List Ob} {t : TypeId} {s x d : D} {H' : List Ob} {bs : List Bool} (h : appD P H t s x = some (d, H', none, bs)) : ∃ n o, d = .asl H.length 0 n ∧ H' = H ++ [o] := by
  unfold appD at h
  split at h <;> try cases h
  rename_i sz by_ wd m g _ _
  cases h1 : Nat.beq wd sz with
  | false => rw [h1] at h; cases h
  | true =>
    rw [h1] at h
    simp only [cond_true] at h
    split at h
    · rename_i wd' n f _
      cases h2 : Nat.beq wd' sz with
      | false => rw [h2] at h; cases h
      | true =>
        rw [h2] at h
        simp only [cond_true, Option.some.injEq, Prod.mk.injEq] at h
        exact ⟨_, _, h.1.symm, h.2.1.symm⟩
    · split at h <;> try cases h
      rename_i wd' n' f _
      generalize (Nat.beq wd' sz && _ && _) = b at h
      cases b <;> simp at h
    · cases h
theorem appD_old {P : Program} {H0 : List Ob} {o0 : Ob} {t : TypeId} {p : Nat} {s x d : D} {H' : List Ob} {bs : List Bool} (hc : H0.all (cleanO H0.length) = true) (hp : p = H0.length)
    (h : appD P (H0 ++ [o0]) t s x = some (d, H', some p, bs)) : ∃ n o, d = .asl H0.length 0 n ∧ H' = H0 ++ [o] := by
  unfold appD at h
  split at h <;> try cases h
  rename_i sz by_ wd m g _ _
  cases h1 : Nat.beq wd sz with
  | false => rw [h1] at h; cases h
  | true =>
    rw [h1] at h
    simp only [cond_true] at h
    split at h
    · rename_i wd' n f _
      cases h2 : Nat.beq wd' sz with
      | false => rw [h2] at h; cases h
      | true => rw [h2] at h; simp at h
    · split at h <;> try cases h
      rename_i wd' n' f _
      generalize (Nat.beq wd' sz && _ && _) = b at h
      cases b with
      | false => cases h
      | true =>
        simp only [cond_true, Option.some.injEq, Prod.mk.injEq] at h
        obtain ⟨h2, h3, h4, _⟩ := h
        subst h4
        subst hp
        have e : ∀ o', ((H0 ++ [o0]).set H0.length o').map (purgeO H0.length) = H0 ++ [purgeO H0.length o'] := fun o' => by
          rw [List.set_append_right _ _ (Nat.le_refl _), Nat.sub_self, List.set_cons_zero, List.map_append]
          congr 1
          conv => rhs; rw [← List.map_id H0]
          apply List.map_congr_left
          intro o ho
          exact purgeO_clean (List.all_eq_true.1 hc o ho)
        exact ⟨_, _, h2.symm, h3.symm.trans (e _)⟩
    · cases h
def isApp : Op → Bool
  | .call { callee := .builtin .append, args := ⟨[_, _]⟩, argTypes := ⟨[_, _]⟩ } => true
  | _ => false
theorem heapD_app {P : Program} {H : List Ob} {ρ : Operand → D} {op : Op} {r : D × List Ob × Option Nat × List Bool} (ha : isApp op = true) (h : heapD P H ρ op = some r) : ∃ t s x, appD P H t s x = some r := by
  unfold isApp at ha
  split at ha
  · rename_i s x t u
    simp only [heapD] at h
    cases hb : Nat.beq t u with
    | false => rw [hb] at h; cases h
    | true => rw [hb] at h; exact ⟨_, _, _, h⟩
  · cases ha
def chE (ch : Option (Nat × D)) (env : List (Nat × D)) (x : Operand) : D :=
  match ch, x with
  | some (t0, d0), .tmp t => bif Nat.beq t t0 then d0 else unwrap [] (evD env x)
  | _, _ => unwrap [] (evD env x)
def pidOk (n : Nat) (ch : Option (Nat × D)) (pid : Option Nat) : Bool :=
  match ch, pid with
  | none, none => true
  | some _, some p => Nat.beq p n
  | _, _ => false
def lastW (ws : List Nat) : Nat := ws.getLastD 0
def hkA (ops : Array Oper) (ws : List Nat) (H0 HH : List Ob) (k : Nat) : List Ob := bif ((Region.before ops).getD k 0).testBit (lastW ws) then HH else H0
def stepA (P : Program) (ops : Array Oper) (ws : List Nat) (H0 : List Ob) (k : Nat) (HH : List Ob) (ch : Option (Nat × D)) (env : List (Nat × D)) (orc : List Res) (o : Oper) : Option (D × List Ob × Option (Nat × D) × List Bool × List Req × List Res) :=
  match ws.contains k with
  | true => match o.guard, o.dst, isApp o.op, heapD P HH (chE ch env) o.op with
    | none, some t, true, some (d, H', pid, bs) => bif pidOk H0.length ch pid then some (bif Nat.beq k (lastW ws) then d else .any, H', some (t, d), bs, [], orc) else none
    | _, _, _, _ => none
  | false => match stepDr P ops k (hkA ops ws H0 HH k) env orc o with
    | some (d, bs, rq, orc') => bif mt H0.length d && !((Region.before ops).getD k 0).testBit (lastW ws) then none else some (d, HH, ch, bs, rq, orc')
    | none => none
def runA (P : Program) (nt : Nat) (ops : Array Oper) (ws : List Nat) (H0 : List Ob) : Nat → List Oper → List (Nat × D) → List Ob → Option (Nat × D) → List Res → Option (List (Nat × D) × List Ob × Option (Nat × D) × List Bool × List Req × List Res)
  | _, [], env, HH, ch, orc => some (env, HH, ch, [], [], orc)
  | k, o :: l, env, HH, ch, orc => match stepA P ops ws H0 k HH ch env orc o with
    | some (d, H1, c1, bs, rq, orc1) => match putE nt o.dst d env with
      | some e => match runA P nt ops ws H0 (k + 1) l e H1 c1 orc1 with
        | some (e', H', c', bs', rq', orc') => some (e', H', c', bs ++ bs', rq ++ rq', orc')
        | none => none
      | none => none
    | none => none
structure TraceA (P : Program) (nt : Nat) (ops : Array Oper) (ws : List Nat) (H0 : List Ob) (bs : List Bool) (rq : List Req) (k n : Nat) (E : Nat → List (Nat × D)) (HH : Nat → List Ob) (CH : Nat → Option (Nat × D)) (V : Nat → D) : Prop where
  step : ∀ i, k ≤ i → i < n → ∃ o orc b r orc', ops[i]? = some o ∧ stepA P ops ws H0 i (HH i) (CH i) (E i) orc o = some (V i, HH (i + 1), CH (i + 1), b, r, orc') ∧ (∀ x ∈ b, x ∈ bs) ∧ (∀ x ∈ r, x ∈ rq)
  put : ∀ i, k ≤ i → i < n → ∃ o, ops[i]? = some o ∧ putE nt o.dst (V i) (E i) = some (E (i + 1))
theorem traceA_of {P : Program} {nt : Nat} {ops : Array Oper} {ws : List Nat} {H0 : List Ob} : ∀ (l : List Oper) (k : Nat) (env env' : List (Nat × D)) (H H' : List Ob) (ch ch' : Option (Nat × D)) (orc orc' : List Res) (bs : List Bool) (rq : List Req), (∀ (j : Nat), l[j]? = ops[k + j]? ∨ l.length ≤ j) →
    runA P nt ops ws H0 k l env H ch orc = some (env', H', ch', bs, rq, orc') → ∃ E HH CH V, E k = env ∧ HH k = H ∧ CH k = ch ∧ E (k + l.length) = env' ∧ HH (k + l.length) = H' ∧ CH (k + l.length) = ch' ∧ TraceA P nt ops ws H0 bs rq k (k + l.length) E HH CH V
  | [], k, env, env', H, H', ch, ch', orc, orc', bs, rq, _, h => by
    simp only [runA, Option.some.injEq, Prod.mk.injEq] at h
    obtain ⟨rfl, rfl, rfl, rfl, rfl, rfl⟩ := h
    exact ⟨fun _ => env, fun _ => H, fun _ => ch, fun _ => .any, rfl, rfl, rfl, rfl, rfl, rfl, ⟨fun i h1 h2 => by simp at h2; omega, fun i h1 h2 => by simp at h2; omega⟩⟩
  | o :: l, k, env, env', H, H', ch, ch', orc, orc', bs, rq, hl, h => by
    simp only [runA] at h
    split at h <;> try cases h
    rename_i d H1 c1 b1 r1 orc1 hs
    split at h <;> try cases h
    rename_i e he
    split at h <;> try cases h
    rename_i b2 r2 hr
    have ho : ops[k]? = some o := by
      rcases hl 0 with h1 | h1
      · simpa using h1.symm
      · simp at h1
    obtain ⟨E, HH, CH, V, hE, hH, hC, hE', hH', hC', hT⟩ := traceA_of l (k + 1) e env' H1 H' c1 ch' orc1 orc' b2 r2 (fun j => by
      rcases hl (j + 1) with h1 | h1
      · left; simpa [Nat.add_assoc, Nat.add_comm 1 j] using h1
      · right; simp at h1; exact h1) hr
    have en : k + (o :: l).length = k + 1 + l.length := by simp only [List.length_cons]; omega
    refine ⟨fun i => if i = k then env else E i, fun i => if i = k then H else HH i, fun i => if i = k then ch else CH i, fun i => if i = k then d else V i, by simp, by simp, by simp, ?_, ?_, ?_, ⟨fun i h1 h2 => ?_, fun i h1 h2 => ?_⟩⟩
    · show (if k + (o :: l).length = k then env else E (k + (o :: l).length)) = env'
      rw [if_neg (by simp), en]; exact hE'
    · show (if k + (o :: l).length = k then H else HH (k + (o :: l).length)) = H'
      rw [if_neg (by simp), en]; exact hH'
    · show (if k + (o :: l).length = k then ch else CH (k + (o :: l).length)) = ch'
      rw [if_neg (by simp), en]; exact hC'
    · by_cases hik : i = k
      · subst hik
        simp only [if_true]
        rw [if_neg (by omega), if_neg (by omega), hH, hC]
        exact ⟨o, orc, b1, r1, orc1, ho, hs, fun x hx => List.mem_append_left _ hx, fun x hx => List.mem_append_left _ hx⟩
      · simp only [if_neg hik]
        rw [if_neg (by omega), if_neg (by omega)]
        obtain ⟨o', orc', b, r, orc'', h3, h4, h5, h6⟩ := hT.step i (by omega) (by simp at h2; omega)
        exact ⟨o', orc', b, r, orc'', h3, h4, fun x hx => List.mem_append_right _ (h5 x hx), fun x hx => List.mem_append_right _ (h6 x hx)⟩
    · by_cases hik : i = k
      · subst hik
        simp only [if_true]
        rw [if_neg (by omega)]
        exact ⟨o, ho, by rw [hE]; exact he⟩
      · simp only [if_neg hik]
        rw [if_neg (by omega)]
        exact hT.put i (by omega) (by simp at h2; omega)
section
variable {P : Program} {nt : Nat} {ops : Array Oper} {ws : List Nat} {H0 : List Ob} {bs : List Bool} {rq : List Req} {n : Nat} {E : Nat → List (Nat × D)} {HH : Nat → List Ob} {CH : Nat → Option (Nat × D)} {V : Nat → D}
theorem env_valA (hnd : dstsB ops = true) (hT : TraceA P nt ops ws H0 bs rq 0 n E HH CH V) : ∀ k, k ≤ n → ∀ t, find (E k) t = valL ops V (E 0) (· < k) t
  | 0, _, t => by rw [valL_none]; intro i _ h; omega
  | k + 1, hk, t => by
    have ih := env_valA hnd hT k (by omega) t
    obtain ⟨o, ho, hp⟩ := hT.put k (by omega) (by omega)
    unfold putE at hp
    split at hp
    · rename_i hd
      simp only [Option.some.injEq] at hp
      rw [← hp, ih]
      refine valL_congr hnd fun i hi => ⟨fun h => by omega, fun h => ?_⟩
      rcases Nat.lt_or_ge i k with h1 | h1
      · exact h1
      · have : i = k := by omega
        subst this
        rw [ho] at hi
        simp [hd] at hi
    · rename_i u hd
      cases hlt : Nat.blt u nt with
      | false => rw [hlt] at hp; cases hp
      | true =>
        rw [hlt] at hp
        simp only [cond_true, Option.some.injEq] at hp
        rw [← hp]
        simp only [find]
        have hku : (ops[k]?).bind (·.dst) = some u := by rw [ho]; exact hd
        cases hb : Nat.beq u t with
        | true =>
          obtain rfl := Nat.eq_of_beq_eq_true hb
          simp only [cond_true]
          exact (valL_some hnd hku (Nat.lt_succ_self k)).symm
        | false =>
          simp only [cond_false]
          rw [ih]
          refine valL_congr hnd fun i hi => ⟨fun h => by omega, fun h => ?_⟩
          rcases Nat.lt_or_ge i k with h1 | h1
          · exact h1
          · have : i = k := by omega
            subst this
            rw [hku] at hi
            cases hi
            rw [Nat.beq_refl] at hb; cases hb
theorem chA (hcl : H0.all (cleanO H0.length) = true) (hT : TraceA P nt ops ws H0 bs rq 0 n E HH CH V) (h0 : HH 0 = H0) (hc0 : CH 0 = none) :
    ∀ k, k ≤ n → (CH k = none ∧ HH k = H0) ∨ ∃ t0 m o, CH k = some (t0, .asl H0.length 0 m) ∧ HH k = H0 ++ [o] ∧ ∃ w, w < k ∧ ws.contains w = true ∧ (ops[w]?).bind (·.dst) = some t0
  | 0, _ => .inl ⟨hc0, h0⟩
  | k + 1, hk => by
    have ih := chA hcl hT h0 hc0 k (by omega)
    obtain ⟨o, orc, b, r, orc', ho, hs, _⟩ := hT.step k (Nat.zero_le _) (by omega)
    unfold stepA at hs
    cases hw : ws.contains k with
    | false =>
      rw [hw] at hs
      simp only at hs
      split at hs <;> try cases hs
      rename_i d0 bs0 rq0 orc0 _
      cases hm : (mt H0.length d0 && !((Region.before ops).getD k 0).testBit (lastW ws)) with
      | true => rw [hm] at hs; cases hs
      | false =>
        rw [hm] at hs
        simp only [cond_false, Option.some.injEq, Prod.mk.injEq] at hs
        rw [← hs.2.1, ← hs.2.2.1]
        rcases ih with h | ⟨t0, m, o0, h1, h2, w, h3, h4⟩
        · exact .inl h
        · exact .inr ⟨t0, m, o0, h1, h2, w, by omega, h4⟩
    | true =>
      rw [hw] at hs
      simp only at hs
      split at hs <;> try cases hs
      rename_i t d0 H1 pid bs0 hgd hdst happ hheap
      cases hp : pidOk H0.length (CH k) pid with
      | false => rw [hp] at hs; cases hs
      | true =>
        rw [hp] at hs
        simp only [cond_true, Option.some.injEq, Prod.mk.injEq] at hs
        obtain ⟨_, h2, h3, _⟩ := hs
        obtain ⟨tt, s, x, hap⟩ := heapD_app happ hheap
        rw [← h2, ← h3]
        right
        have hkd : (ops[k]?).bind (·.dst) = some t := by rw [ho]; exact hdst
        rcases ih with ⟨hc, hH⟩ | ⟨t0, m, o0, hc, hH, _⟩
        · rw [hc] at hp
          cases pid with
          | some p => cases hp
          | none =>
            rw [hH] at hap
            obtain ⟨m, o1, rfl, rfl⟩ := appD_new hap
            exact ⟨t, m, o1, rfl, rfl, k, Nat.lt_succ_self k, hw, hkd⟩
        · rw [hc] at hp
          cases pid with
          | none => cases hp
          | some p =>
            rw [hH] at hap
            obtain ⟨m, o1, rfl, rfl⟩ := appD_old hcl (Nat.eq_of_beq_eq_true hp) hap
            exact ⟨t, m, o1, rfl, rfl, k, Nat.lt_succ_self k, hw, hkd⟩
theorem same_chain (hT : TraceA P nt ops ws H0 bs rq 0 n E HH CH V) {p : Nat} : ∀ (m : Nat), p + m ≤ n → (∀ w, p ≤ w → w < p + m → ws.contains w = false) → HH (p + m) = HH p ∧ CH (p + m) = CH p
  | 0, _, _ => ⟨rfl, rfl⟩
  | m + 1, hn, h => by
    have ih := same_chain hT (p := p) m (by omega) fun w h1 h2 => h w h1 (by omega)
    obtain ⟨o, orc, b, r, orc', ho, hs, _⟩ := hT.step (p + m) (Nat.zero_le _) (by omega)
    have hw := h (p + m) (by omega) (by omega)
    unfold stepA at hs
    rw [hw] at hs
    simp only at hs
    split at hs <;> try cases hs
    rename_i d0 bs0 rq0 orc0 _
    cases hm : (mt H0.length d0 && !((Region.before ops).getD (p + m) 0).testBit (lastW ws)) with
    | true => rw [hm] at hs; cases hs
    | false =>
      rw [hm] at hs
      simp only [cond_false, Option.some.injEq, Prod.mk.injEq] at hs
      exact ⟨hs.2.1.symm.trans ih.1, hs.2.2.1.symm.trans ih.2⟩
theorem cleanV (hT : TraceA P nt ops ws H0 bs rq 0 n E HH CH V) : ∀ i, i < n → mt H0.length (V i) = true → i = lastW ws ∨ ((Region.before ops).getD i 0).testBit (lastW ws) = true := by
  intro i hi hmt
  obtain ⟨o, orc, b, r, orc', ho, hs, _⟩ := hT.step i (Nat.zero_le _) hi
  unfold stepA at hs
  cases hw : ws.contains i with
  | false =>
    rw [hw] at hs
    simp only at hs
    split at hs <;> try cases hs
    rename_i d0 bs0 rq0 orc0 _
    cases hm : (mt H0.length d0 && !((Region.before ops).getD i 0).testBit (lastW ws)) with
    | true => rw [hm] at hs; cases hs
    | false =>
      rw [hm] at hs
      simp only [cond_false, Option.some.injEq, Prod.mk.injEq] at hs
      rw [← hs.1] at hmt
      rw [hmt] at hm
      simp only [Bool.true_and, Bool.not_eq_false'] at hm
      exact .inr hm
  | true =>
    rw [hw] at hs
    simp only at hs
    split at hs <;> try cases hs
    rename_i t d0 H1 pid bs0 hgd hdst happ hheap
    cases hp : pidOk H0.length (CH i) pid with
    | false => rw [hp] at hs; cases hs
    | true =>
      rw [hp] at hs
      simp only [cond_true, Option.some.injEq, Prod.mk.injEq] at hs
      cases hl : Nat.beq i (lastW ws) with
      | true => exact .inl (Nat.eq_of_beq_eq_true hl)
      | false =>
        rw [hl] at hs
        rw [← hs.1] at hmt
        cases hmt
end
def cordB (ops : Array Oper) (ws : List Nat) : Bool :=
  let M := Region.before ops
  ws.all fun w => ws.all fun v => !Nat.blt v w || (M.getD w 0).testBit v
theorem cord_spec {ops : Array Oper} {ws : List Nat} (h : cordB ops ws = true) {v w : Nat} (hv : ws.contains v = true) (hw : ws.contains w = true) (hlt : v < w) : ((Region.before ops).getD w 0).testBit v = true := by
  have h1 := List.all_eq_true.1 (List.all_eq_true.1 h w (by simpa using hw)) v (by simpa using hv)
  have : Nat.blt v w = true := Nat.ble_eq_true_of_le hlt
  rw [this] at h1
  simpa using h1
structure AInv (F : Fr) (nt : Nat) (ops : Array Oper) (ws : List Nat) (HH : Nat → List Ob) (CH : Nat → Option (Nat × D)) (V : Nat → D) (env0 : List (Nat × D)) (listed : Array Bool) (a : Act) (c : Ctx) : Prop where
  H : ∃ q, q ≤ ops.size ∧ c.H = HH q ∧ (∀ w, ws.contains w = true → w < q → listed.getD w false = true) ∧ (∀ w, ws.contains w = true → q ≤ w → listed.getD w false = false) ∧
    ∀ t0 d0, CH q = some (t0, d0) → TV c (a.tmps.getD t0 undef) d0
  inv : Inv F c
  env : ∀ t, GV (yielded ops a.tmps) c (a.tmps.getD t undef) (valL ops V env0 (fun i => listed.getD i false = true) t)
  size : a.tmps.size = nt
  defers : a.defers = []
  opt : ∀ t j w d, valL ops V env0 (fun i => listed.getD i false = true) t = .opt j w d → listed.getD j false = true
  lsize : listed.size = ops.size
  closed : ∀ i j, Waits ops i j → listed.getD i false = true → listed.getD j false = true
end Nv
namespace Nv
open Go Go.RowKit
theorem lastW_mem {ws : List Nat} (h : ws ≠ []) : lastW ws ∈ ws := by
  unfold lastW
  rw [List.getLastD_eq_getLast?, List.getLast?_eq_some_getLast h]
  exact List.getLast_mem h
theorem reach_lt {ops : Array Oper} (h : ∀ i o, ops[i]? = some o → ∀ e ∈ o.after, Region.binds .any e = true → e.on < i) {i k : Nat} (r : Reach ops i k) : k < i := by
  have one : ∀ {i k}, Waits ops i k → k < i := fun {i k} ⟨o, ho, e, he, hb, hk⟩ => by rw [← hk]; exact h i o ho e he hb
  induction r with
  | one hw => exact one hw
  | step hw _ ih => exact Nat.lt_trans ih (one hw)
theorem drawA_sound {P : Program} {F : Fr} [GF P F] {nt : Nat} {ops : Array Oper} {ws : List Nat} {H0 : List Ob} {bs : List Bool} {rq : List Req} {E : Nat → List (Nat × D)} {HH : Nat → List Ob} {CH : Nat → Option (Nat × D)} {V : Nat → D} (hfl : flowB ops = true) (hcm : cordB ops ws = true)
    (hcl : H0.all (cleanO H0.length) = true) (hlast : ∀ w ∈ ws, w ≤ lastW ws) (hce : ∀ t, mt H0.length (find (E 0) t) = false) (hT : TraceA P nt ops ws H0 bs rq 0 ops.size E HH CH V) (h00 : HH 0 = H0) (hc0 : CH 0 = none) (hb : ∀ b ∈ bs, b = true) (hq : ∀ q ∈ rq, q.ok P)
    {Q : Exit → Act → World → Prop} (orc : List Res) {tk : Nat} {dk : D} (hck : CH ops.size = some (tk, dk))
    (hQ : ∀ a c, RInv F nt ops ops.size ⟨(tk, dk) :: E ops.size, HH ops.size, orc⟩ a c → Q .normal a c.w) :
    ∀ (fuel : Nat) (listed : Array Bool) (a : Act) (c : Ctx), AInv F nt ops ws HH CH V (E 0) listed a c → cnt listed + fuel = ops.size → wpAny P .any ops Q fuel listed a c.w := by
  simp only [flowB, Bool.and_eq_true, List.all_eq_true] at hfl
  obtain ⟨hnd, hfl⟩ := hfl
  have flow : ∀ i o, ops[i]? = some o → flowAt ops (Region.before ops) i o = true := fun i o ho => by
    have hlt := (Array.getElem?_eq_some_iff.1 ho).1
    refine hfl (o, i) ?_
    rw [List.mem_zipIdx_iff_getElem?]
    simpa using ho
  have hmore : ∀ k, k ≤ ops.size → ∃ X, HH k = H0 ++ X := fun k hk => by
    rcases chA hcl hT h00 hc0 k hk with ⟨_, h⟩ | ⟨_, _, o, _, h, _⟩
    · exact ⟨[], by rw [h, List.append_nil]⟩
    · exact ⟨[o], h⟩
  have fin : ∀ (listed : Array Bool) a c, AInv F nt ops ws HH CH V (E 0) listed a c → (∀ i, i < ops.size → listed.getD i false = true) → Q .normal a c.w := fun listed a c hD hall => by
    have hval : ∀ t, find (E ops.size) t = valL ops V (E 0) (fun i => listed.getD i false = true) t := fun t => by
      rw [env_valA hnd hT ops.size (Nat.le_refl _) t]
      refine valL_congr hnd fun i hi => ⟨fun h => hall i h, fun _ => ?_⟩
      obtain ⟨o, ho, _⟩ := Option.bind_eq_some_iff.1 hi
      exact (Array.getElem?_eq_some_iff.1 ho).1
    obtain ⟨q, hq1, hq2, hq3, hq4, hq5⟩ := hD.H
    have hsc := same_chain hT (p := q) (ops.size - q) (by omega) fun w h1 h2 => by
      cases hw : ws.contains w with
      | false => rfl
      | true =>
        have h3 := hq4 w hw h1
        rw [hall w (by omega)] at h3; cases h3
    rw [show q + (ops.size - q) = ops.size by omega] at hsc
    have htk := hq5 tk dk (hsc.2.symm.trans hck)
    refine hQ a c ⟨hq2.trans hsc.1.symm, hD.inv, fun t => ?_, hD.size, hD.defers, fun t j w d hf => ?_⟩
    · show GV _ _ _ (find ((tk, dk) :: E ops.size) t)
      simp only [find]
      cases hbt : Nat.beq tk t with
      | true => obtain rfl := Nat.eq_of_beq_eq_true hbt; exact gv_of_tv htk
      | false => simp only [cond_false]; rw [hval]; exact hD.env t
    · have hf : find ((tk, dk) :: E ops.size) t = .opt j w d := hf
      simp only [find] at hf
      cases hbt : Nat.beq tk t with
      | true =>
        rw [hbt] at hf
        simp only [cond_true] at hf
        rw [hf] at htk
        simp only [TV, AV] at htk
        exact absurd htk cv_not_opt
      | false =>
        rw [hbt] at hf
        simp only [cond_false] at hf
        rw [hval] at hf
        have := hD.opt t j w d hf
        rcases Nat.lt_or_ge j listed.size with h | h
        · rw [hD.lsize] at h; exact h
        · simp [Array.getElem?_eq_none h] at this
  -- nothing is ready: all are listed
  have stuckAll : ∀ (listed : Array Bool), listed.size = ops.size → Region.ready .any ops listed = [] → ∀ i, i < ops.size → listed.getD i false = true := by
    intro listed hls hr i
    induction i using Nat.strongRecOn with
    | _ i ih =>
      intro hi
      cases hl : listed.getD i false with
      | true => rfl
      | false =>
        exfalso
        have : i ∈ Region.ready .any ops listed := by
          rw [mem_ready]
          refine ⟨by simp [hls, hi] at hl ⊢; exact hl, ops[i], by simp [hi], fun e he hbi => ?_⟩
          have h1 := flow i ops[i] (by simp [hi])
          simp only [flowAt, Bool.and_eq_true] at h1
          have h2 := Array.all_eq_true'.1 h1.1.1 e he
          simp only [hbi, Bool.not_true, Bool.false_or] at h2
          have h3 := blt_true h2
          exact ih e.on h3 (by omega)
        rw [hr] at this
        cases this
  intro fuel
  induction fuel with
  | zero =>
    intro listed a c hD hcnt
    have hall : ∀ i, i < ops.size → listed.getD i false = true := by
      have := cnt_full (listed := listed) (by rw [hD.lsize]; omega)
      rw [hD.lsize] at this
      exact this
    refine ⟨?_, fin listed a c hD hall⟩
    cases hr : Region.ready .any ops listed with
    | nil => rfl
    | cons i r =>
      exfalso
      have : i ∈ Region.ready .any ops listed := by rw [hr]; exact List.mem_cons_self
      obtain ⟨h1, o, ho, _⟩ := mem_ready.1 this
      have hi := (Array.getElem?_eq_some_iff.1 ho).1
      have h2 := hall i hi
      simp [hD.lsize, hi] at h1 h2
      rw [h1] at h2
      cases h2
  | succ fuel ih =>
    intro listed a c hD hcnt
    refine ⟨fun hr => fin listed a c hD (stuckAll listed hD.lsize hr), fun i hi => ?_⟩
    obtain ⟨hun, o, ho, hall⟩ := mem_ready.1 hi
    have hilt := (Array.getElem?_eq_some_iff.1 ho).1
    have hunf : listed.getD i false = false := by simp [hD.lsize, hilt] at hun ⊢; exact hun
    have hwaits : ∀ j, Waits ops i j → listed.getD j false = true := fun j ⟨o', ho', e, he, hbi, hon⟩ => by
      rw [ho] at ho'
      cases ho'
      rw [← hon]
      exact hall e he hbi
    obtain ⟨o', orc0, b, r, orc1, ho', hstep, hb1, hr1⟩ := hT.step i (Nat.zero_le _) hilt
    rw [ho] at ho'
    cases ho'
    have reach : ∀ k l, k < ops.size → ((Region.before ops).getD k 0).testBit l = true → listed.getD k false = true → listed.getD l false = true := fun k l hk hb2 hl =>
      closed_reach hD.closed (before_reach ops k l hk hb2) (fun j hj => hD.closed _ _ hj hl)
    have reachI : ∀ l, ((Region.before ops).getD i 0).testBit l = true → listed.getD l false = true := fun l hb2 => closed_reach hD.closed (before_reach ops i l hilt hb2) hwaits
    have hfa := flow i o ho
    simp only [flowAt, Bool.and_eq_true] at hfa
    obtain ⟨⟨hf1, hf2⟩, hf3⟩ := hfa
    -- what the operation looks at has its value of the text's order
    have same : ∀ t ∈ needs ops o, valL ops V (E 0) (fun i => listed.getD i false = true) t = find (E i) t := fun t ht => by
      rw [env_valA hnd hT i (by omega) t]
      refine valL_congr hnd fun k hk => ?_
      have h1 := List.all_eq_true.1 hf3 t ht
      obtain ⟨ok, hok, hdk⟩ := Option.bind_eq_some_iff.1 hk
      have hklt := (Array.getElem?_eq_some_iff.1 hok).1
      have h2 := List.all_eq_true.1 h1 (ok, k) (by rw [List.mem_zipIdx_iff_getElem?]; simpa using hok)
      simp only [hdk] at h2
      have e1 : Nat.beq t t = true := Nat.beq_refl t
      rw [e1] at h2
      simp only [Bool.not_true, Bool.false_or, Bool.or_eq_true, Bool.and_eq_true] at h2
      rcases h2 with (h2 | ⟨h2, h3⟩) | ⟨h2, h3⟩
      · obtain rfl := Nat.eq_of_beq_eq_true h2
        exact ⟨fun h => (by rw [hunf] at h; cases h), fun h => by omega⟩
      · exact ⟨fun _ => blt_true h2, fun _ => closed_reach hD.closed (before_reach ops i k hilt h3) hwaits⟩
      · have hik := blt_true h2
        refine ⟨fun h => ?_, fun h => by omega⟩
        have := closed_reach hD.closed (before_reach ops k i hklt h3) (fun j hj => hD.closed _ _ hj h)
        rw [hunf] at this
        cases this
    have hops : ∀ x ∈ o.op.operands.toList, GV (yielded ops a.tmps) c (a.eval x) (evD (E i) x) := fun x hx => by
      cases x with
      | tmp t =>
        show GV _ _ _ (find (E i) t)
        rw [← same t (by simp only [needs, List.mem_append, List.mem_filterMap]; exact .inl ⟨.tmp t, hx, rfl⟩)]
        exact hD.env t
      | const v => exact gv_of_tv (tv_dv c v)
      | global g => exact gv_of_tv tv_any
      | func f => exact gv_of_tv ⟨#[], rfl, rfl, fun i v d h1 _ => by simp at h1⟩
    have hgf : GuardFacts ops a c (E i) (gch ops 20 o.guard) := fun p hp t ht => by
      rw [← same t (by simp only [needs, List.mem_append, List.mem_filterMap]; exact .inr ⟨p, hp, ht⟩)]
      exact hD.env t
    have htl : ∀ t, o.dst = some t → t < a.tmps.size := fun t hdt => by
      obtain ⟨o2, ho2, hp⟩ := hT.put i (Nat.zero_le _) hilt
      rw [ho] at ho2
      cases ho2
      rw [hdt] at hp
      simp only [putE] at hp
      cases hlt : Nat.blt t nt with
      | false => simp [hlt] at hp
      | true => rw [hD.size]; exact blt_true hlt
    -- the new state
    have new : ∀ v c', Inv F c' → (∃ q, q ≤ ops.size ∧ c'.H = HH q ∧ (∀ w, ws.contains w = true → w < q → (listed.setIfInBounds i true).getD w false = true) ∧ (∀ w, ws.contains w = true → q ≤ w → (listed.setIfInBounds i true).getD w false = false) ∧
          ∀ t0 d0, CH q = some (t0, d0) → TV c' ((a.put o.dst v).tmps.getD t0 undef) d0) →
        (∀ t, GV (yielded ops a.tmps) c' (a.tmps.getD t undef) (valL ops V (E 0) (fun j => listed.getD j false = true) t)) → (∀ d, V i = d → GV (yielded ops (a.put o.dst v).tmps) c' v d) → (∀ j w d, V i = .opt j w d → listed.getD j false = true) →
        wpAny P .any ops Q fuel (listed.setIfInBounds i true) (a.put o.dst v) c'.w := fun v c' hI' hHn htr hv hvo => by
      have hL : ∀ j, (listed.setIfInBounds i true).getD j false = true ↔ j = i ∨ listed.getD j false = true := fun j => by
        by_cases hji : j = i
        · subst hji; simp [hD.lsize, hilt]
        · rw [getD_set_ne false (Ne.symm hji)]; simp [hji]
      have hvalo : ∀ t, (∀ u, o.dst = some u → u ≠ t) → valL ops V (E 0) (fun j => (listed.setIfInBounds i true).getD j false = true) t = valL ops V (E 0) (fun j => listed.getD j false = true) t := fun t ht => by
        refine valL_congr hnd fun k hk => ?_
        show (listed.setIfInBounds i true).getD k false = true ↔ _
        rw [hL]
        refine ⟨fun h => ?_, .inr⟩
        rcases h with rfl | h
        · rw [ho] at hk
          exact absurd rfl (ht t hk)
        · exact h
      have hyj : ∀ j, listed.getD j false = true → yielded ops (a.put o.dst v).tmps j = yielded ops a.tmps j := fun j hj => yielded_put fun t ht e => by
        have := dsts_spec hnd (show (ops[i]?).bind (·.dst) = some t by rw [ho]; exact ht) e
        subst this
        rw [hunf] at hj
        cases hj
      have keep : ∀ t, GV (yielded ops (a.put o.dst v).tmps) c' (a.tmps.getD t undef) (valL ops V (E 0) (fun j => listed.getD j false = true) t) := fun t => by
        have h1 := htr t
        cases hf : valL ops V (E 0) (fun j => listed.getD j false = true) t <;> rw [hf] at h1 <;> try exact h1
        rename_i j w d
        simp only [GV] at h1 ⊢
        rw [hyj j (hD.opt t j w d hf)]
        exact h1
      refine ih _ _ c' ⟨hHn, hI', fun t => ?_, by rw [size_put]; exact hD.size, by rw [defers_put]; exact hD.defers, fun t j w d hf => ?_, by simp [hD.lsize], fun p q hpq hp => ?_⟩ ?_
      · by_cases hdt : o.dst = some t
        · have hit : (ops[i]?).bind (·.dst) = some t := by rw [ho]; exact hdt
          rw [valL_some hnd hit ((hL i).2 (.inl rfl))]
          have e : (a.put o.dst v).tmps.getD t undef = v := by rw [hdt]; exact getD_put_same (htl t hdt)
          rw [e]
          exact hv _ rfl
        · rw [hvalo t (fun u hu e => hdt (by rw [hu, e])), getD_put hdt]
          exact keep t
      · rw [hL]
        right
        by_cases hdt : o.dst = some t
        · have hit : (ops[i]?).bind (·.dst) = some t := by rw [ho]; exact hdt
          rw [valL_some hnd hit ((hL i).2 (.inl rfl))] at hf
          exact hvo j w d hf
        · rw [hvalo t (fun u hu e => hdt (by rw [hu, e]))] at hf
          exact hD.opt t j w d hf
      · rw [hL] at hp ⊢
        right
        rcases hp with rfl | hp
        · exact hwaits q hpq
        · exact hD.closed p q hpq hp
      · rw [cnt_set (by rw [hD.lsize]; exact hilt) hunf]
        omega
    obtain ⟨q, hq1, hq2, hq3, hq4, hq5⟩ := hD.H
    unfold wpOp
    simp only [ho]
    unfold stepA at hstep
    cases hwr : ws.contains i with
    | true =>
      rw [hwr] at hstep
      simp only at hstep
      split at hstep <;> try cases hstep
      rename_i t d0 H1 pid bs0 hgd hdst happ hheap
      cases hpk : pidOk H0.length (CH i) pid with
      | false => rw [hpk] at hstep; cases hstep
      | true =>
      rw [hpk] at hstep
      simp only [cond_true, Option.some.injEq, Prod.mk.injEq] at hstep
      obtain ⟨hVi, hHi1, hCi1, rfl, rfl, rfl⟩ := hstep
      have hw : Region.wanted o (yielded ops a.tmps) = true := by simp [Region.wanted, hgd]
      simp only [hw, if_true]
      -- the chain stands where the text's order has it
      have hqi : HH q = HH i ∧ CH q = CH i := by
        rcases Nat.lt_or_ge i q with hiq | hiq
        · have := hq3 i hwr hiq
          rw [hunf] at this; cases this
        · have := same_chain hT (p := q) (i - q) (by omega) fun w h1 h2 => by
            cases hw' : ws.contains w with
            | false => rfl
            | true =>
              have h3 := hq4 w hw' h1
              rw [reachI w (cord_spec hcm hw' hwr (by omega))] at h3; cases h3
          rw [show q + (i - q) = i by omega] at this
          exact ⟨this.1.symm, this.2.symm⟩
      have hρ : ∀ x ∈ o.op.operands.toList, TV c (a.eval x) (chE (CH i) (E i) x) := fun x hx => by
        have hu : TV c (a.eval x) (unwrap [] (evD (E i) x)) := unwrap_ok (a := a) (ops := ops) (by simp) (hops x hx)
        unfold chE
        split
        · rename_i t0 d1 t1 hch
          cases hbt : Nat.beq t1 t0 with
          | true =>
            obtain rfl := Nat.eq_of_beq_eq_true hbt
            exact hq5 t1 d1 (hqi.2.trans hch)
          | false => exact hu
        · exact hu
      obtain ⟨v, c', hrun', hI', hH', htr, htv⟩ := heapD_ok (ρc := a.eval) hD.inv hρ (by rw [hq2, hqi.1]; exact hheap) (fun b hb' => hb b (hb1 b hb'))
      have hpu : ∀ e, mt H0.length e = false → purge pid e = e := fun e he => by
        unfold pidOk at hpk
        split at hpk
        · rfl
        · rename_i p _
          obtain rfl := Nat.eq_of_beq_eq_true hpk
          simp only [purge, he, cond_false]
        · cases hpk
      have hA : ∀ w, ws.contains w = true → w < i + 1 → (listed.setIfInBounds i true).getD w false = true := fun w hw' hwq => by
        rcases Nat.lt_or_ge w i with h1 | h1
        · rw [getD_set_ne false (by omega)]
          exact reachI w (cord_spec hcm hw' hwr h1)
        · have : w = i := by omega
          subst this
          simp [hD.lsize, hilt]
      have hB : ∀ w, ws.contains w = true → i + 1 ≤ w → (listed.setIfInBounds i true).getD w false = false := fun w hw' hwq => by
        rw [getD_set_ne false (by omega)]
        cases hl : listed.getD w false with
        | false => rfl
        | true =>
          have hwl : w < ops.size := by
            rcases Nat.lt_or_ge w listed.size with h | h
            · rw [hD.lsize] at h; exact h
            · simp [Array.getElem?_eq_none h] at hl
          rw [reach w i hwl (cord_spec hcm hwr hw' (by omega)) hl] at hunf
          cases hunf
      have hC : ∀ t0 d1, CH (i + 1) = some (t0, d1) → TV c' ((a.put o.dst v).tmps.getD t0 undef) d1 := fun t0 d1 h => by
        rw [← hCi1] at h
        cases h
        have e : (a.put o.dst v).tmps.getD t undef = v := by rw [hdst]; exact getD_put_same (htl t hdst)
        rw [e]
        exact htv
      -- nothing that is there names the slice that grows
      have hlastU : ∀ k, listed.getD k false = true → mt H0.length (V k) = false := fun k hk => by
        cases hmk : mt H0.length (V k) with
        | false => rfl
        | true =>
          exfalso
          have hkl : k < ops.size := by
            rcases Nat.lt_or_ge k listed.size with h | h
            · rw [hD.lsize] at h; exact h
            · simp [Array.getElem?_eq_none h] at hk
          have hll : listed.getD (lastW ws) false = true := by
            rcases cleanV hT k hkl hmk with rfl | h
            · exact hk
            · exact reach k _ hkl h hk
          have hlw : ws.contains (lastW ws) = true := by
            have hne : ws ≠ [] := fun e => by rw [e] at hwr; simp at hwr
            simpa using lastW_mem hne
          rcases Nat.lt_or_ge (lastW ws) i with h1 | h1
          · have hiw : i ∈ ws := by simpa using hwr
            have := hlast i hiw
            omega
          · by_cases e : lastW ws = i
            · rw [e, hunf] at hll; cases hll
            · have hll2 : lastW ws < ops.size := by
                rcases Nat.lt_or_ge (lastW ws) listed.size with h | h
                · rw [hD.lsize] at h; exact h
                · simp [Array.getElem?_eq_none h] at hll
              rw [reach _ i hll2 (cord_spec hcm hwr hlw (by omega)) hll] at hunf
              cases hunf
      have hclean : ∀ t, mt H0.length (valL ops V (E 0) (fun j => listed.getD j false = true) t) = false := fun t => by
        by_cases hx : ∃ k, (ops[k]?).bind (·.dst) = some t ∧ listed.getD k false = true
        · obtain ⟨k, h1, h2⟩ := hx
          rw [valL_some hnd h1 h2]
          exact hlastU k h2
        · rw [valL_none fun k h1 h2 => hx ⟨k, h1, h2⟩]
          exact hce t
      have hkeep : ∀ t, GV (yielded ops a.tmps) c' (a.tmps.getD t undef) (valL ops V (E 0) (fun j => listed.getD j false = true) t) := fun t => by
        have h1 := gv_purge htr (hD.env t)
        rwa [hpu _ (hclean t)] at h1
      have hVv : ∀ d', V i = d' → GV (yielded ops (a.put o.dst v).tmps) c' v d' := fun d' hd' => by
        rw [← hd', ← hVi]
        cases Nat.beq i (lastW ws) with
        | true => exact gv_of_tv htv
        | false => exact gv_of_tv tv_any
      have hVo : ∀ j w d', V i = .opt j w d' → listed.getD j false = true := fun j w d' h => by
        rw [← hVi] at h
        cases hbl : Nat.beq i (lastW ws) with
        | true =>
          rw [hbl] at h
          simp only [cond_true] at h
          rw [h] at htv
          simp only [TV, AV] at htv
          exact absurd htv cv_not_opt
        | false => rw [hbl] at h; cases h
      have hnew := new v c' hI' ⟨i + 1, by omega, hH'.trans hHi1, hA, hB, hC⟩ hkeep hVv hVo
      refine .inl ?_
      unfold Oper.wp
      rcases hrun' with h1 | ⟨h1, rfl⟩
      · rw [h1]; exact hnew
      · rw [h1]; exact hnew
    | false =>
    rw [hwr] at hstep
    simp only at hstep
    split at hstep <;> try cases hstep
    rename_i d0 b0 r0 o0 hstep0
    cases hmt : (mt H0.length d0 && !((Region.before ops).getD i 0).testBit (lastW ws)) with
    | true => rw [hmt] at hstep; cases hstep
    | false =>
    rw [hmt] at hstep
    simp only [cond_false, Option.some.injEq, Prod.mk.injEq] at hstep
    obtain ⟨hV0, _, _, rfl, rfl, rfl⟩ := hstep
    rw [hV0] at hstep0
    have hstep := hstep0
    unfold stepDr at hstep
    split at hstep <;> try cases hstep
    rename_i g hg
    obtain ⟨X, hX⟩ := hmore q hq1
    have hopc : ∀ {x}, opD P (hkA ops ws H0 (HH i) i) ops (E i) (gch ops 20 o.guard) orc0 g o = some x → opD P c.H ops (E i) (gch ops 20 o.guard) orc0 g o = some x := fun {x} h => by
      unfold hkA at h
      cases hbit : ((Region.before ops).getD i 0).testBit (lastW ws) with
      | false => rw [hbit] at h; rw [hq2, hX]; exact opD_more X h
      | true =>
        rw [hbit] at h
        simp only [cond_true] at h
        have hll := reachI _ hbit
        have hli : lastW ws < i := reach_lt (fun i o ho e he hbi => by
          have h1 := flow i o ho
          simp only [flowAt, Bool.and_eq_true] at h1
          have h2 := Array.all_eq_true'.1 h1.1.1 e he
          simp only [hbi, Bool.not_true, Bool.false_or] at h2
          exact blt_true h2) (before_reach ops i _ hilt hbit)
        have e1 := same_chain hT (p := i) (ops.size - i) (by omega) fun w h1 h2 => by
          cases hw' : ws.contains w with
          | false => rfl
          | true => have := hlast w (by simpa using hw'); omega
        have e2 := same_chain hT (p := q) (ops.size - q) (by omega) fun w h1 h2 => by
          cases hw' : ws.contains w with
          | false => rfl
          | true =>
            have h3 := hq4 w hw' h1
            have h4 := hlast w (by simpa using hw')
            have hne : ws ≠ [] := fun e => by rw [e] at hw'; simp at hw'
            have hlw : ws.contains (lastW ws) = true := by simpa using lastW_mem hne
            have h5 : listed.getD w false = true := by
              by_cases e : w = lastW ws
              · rw [e]; exact hll
              · exact reach _ w (by omega) (cord_spec hcm hw' hlw (by omega)) hll
            rw [h5] at h3; cases h3
        rw [show i + (ops.size - i) = ops.size by omega] at e1
        rw [show q + (ops.size - q) = ops.size by omega] at e2
        rw [hq2, ← e2.1, e1.1]
        exact h
    -- what is not an append leaves the chain where it is
    have newH : ∀ v c', Goes c c' → ∃ q, q ≤ ops.size ∧ c'.H = HH q ∧ (∀ w, ws.contains w = true → w < q → (listed.setIfInBounds i true).getD w false = true) ∧ (∀ w, ws.contains w = true → q ≤ w → (listed.setIfInBounds i true).getD w false = false) ∧
          ∀ t0 d0, CH q = some (t0, d0) → TV c' ((a.put o.dst v).tmps.getD t0 undef) d0 := fun v c' hgo => by
      have hne : ∀ w, ws.contains w = true → i ≠ w := fun w hw e => by subst e; rw [hwr] at hw; cases hw
      refine ⟨q, hq1, hgo.H.trans hq2, fun w hw hwq => by rw [getD_set_ne false (hne w hw)]; exact hq3 w hw hwq, fun w hw hwq => by rw [getD_set_ne false (hne w hw)]; exact hq4 w hw hwq, fun t0 d1 h => ?_⟩
      have hdt : o.dst ≠ some t0 := fun hd => by
        rcases chA hcl hT h00 hc0 q hq1 with ⟨h1, _⟩ | ⟨t1, m, o1, h1, _, w, _, hw1, hw2⟩
        · rw [h1] at h; cases h
        · rw [h1] at h
          cases h
          have := dsts_spec hnd (show (ops[i]?).bind (·.dst) = some t0 by rw [ho]; exact hd) hw2
          exact hne w hw1 this
      rw [getD_put hdt]
      exact hgo.tv (hq5 t0 d1 h)
    split at hstep
    · rename_i d bs0 rq0 orc2 j want hop hgd
      cases hlt : Nat.blt j i with
      | false => simp [hlt] at hstep
      | true =>
        simp only [hlt, cond_true, Option.some.injEq, Prod.mk.injEq] at hstep
        obtain ⟨hV, rfl, rfl, rfl⟩ := hstep
        have hji := blt_true hlt
        have hyj : ∀ v, yielded ops (a.put o.dst v).tmps j = yielded ops a.tmps j := fun v => yielded_put fun t ht e => by
          have := dsts_spec hnd (show (ops[i]?).bind (·.dst) = some t by rw [ho]; exact ht) e
          omega
        have hjl : listed.getD j false = true := by
          rw [hgd] at hf2
          simp only at hf2
          obtain ⟨e, he, h1⟩ := Array.any_eq_true'.1 hf2
          simp only [Bool.and_eq_true] at h1
          rw [← Nat.eq_of_beq_eq_true h1.2]
          exact hall e he h1.1
        have hwant : Region.wanted o (yielded ops a.tmps) = (yielded ops a.tmps j == some want) := by simp [Region.wanted, hgd]
        have hvo : ∀ j' w d', V i = .opt j' w d' → listed.getD j' false = true := fun j' w d' h => by rw [← hV] at h; cases h; exact hjl
        cases hw : Region.wanted o (yielded ops a.tmps) with
        | true =>
          simp only [if_true]
          refine .inl (op_sound hD.inv hops hgf hg hw (hopc hop) (fun b hb' => hb b (hb1 b hb')) (fun q hq' => hq q (hr1 q hq')) fun v c' hI' haf => ?_)
          obtain ⟨hgo, _, htv⟩ := haf
          refine new v c' hI' (newH v c' hgo) (fun t => hgo.gv (hD.env t)) (fun d' hd' => ?_) hvo
          rw [← hd', ← hV]
          refine .inl ⟨?_, htv⟩
          rw [hyj]
          rw [hw] at hwant
          simpa using hwant.symm
        | false =>
          simp only [Bool.false_eq_true, if_false]
          refine new undef c hD.inv (newH undef c (Goes.refl hD.inv)) hD.env (fun d' hd' => ?_) hvo
          rw [← hd', ← hV]
          refine .inr ⟨?_, rfl⟩
          rw [hyj]
          rw [hw] at hwant
          simpa using hwant.symm
    · rename_i d bs0 rq0 orc2 hop hgd
      simp only [Option.some.injEq, Prod.mk.injEq] at hstep
      obtain ⟨hV, rfl, rfl, rfl⟩ := hstep
      have hw : Region.wanted o (yielded ops a.tmps) = true := by simp [Region.wanted, hgd]
      simp only [hw, if_true]
      refine .inl (op_sound hD.inv hops hgf hg hw (hopc hop) (fun b hb' => hb b (hb1 b hb')) (fun q hq' => hq q (hr1 q hq')) fun v c' hI' haf => ?_)
      obtain ⟨hgo, _, htv⟩ := haf
      refine new v c' hI' (newH v c' hgo) (fun t => hgo.gv (hD.env t)) (fun d' hd' => ?_) (fun j w d' h => ?_)
      · rw [← hd', ← hV]; exact gv_of_tv htv
      · rw [← hV] at h
        subst h
        simp only [TV, AV] at htv
        exact absurd htv cv_not_opt
    · cases hstep
def regA (P : Program) (ops : Array Oper) (ws : List Nat) (orc : List Res) (keep : List Nat) (hn : Nat) (s : St) : Option (St × List Bool × List Req) :=
  bif flowB ops && P.follows .mixedOrders && cordB ops ws && s.H.all (cleanO s.H.length) && s.env.all (fun p => !mt s.H.length p.2) && ws.all (fun w => Nat.ble w (lastW ws)) then
    (match runA P s.nt ops ws s.H 0 ops.toList s.env s.H none orc with
    | some (env', H', some (t, d), bs, rq, _) => (cutS hn ⟨s.nt, fin ((t, d) :: env') keep, H'⟩).map fun s' => (s', bs, rq)
    | _ => none) else none
theorem find_clean {id : Nat} : ∀ {env : List (Nat × D)}, env.all (fun p => !mt id p.2) = true → ∀ t, mt id (find env t) = false
  | [], _, _ => rfl
  | (u, d) :: env, h, t => by
    simp only [List.all_cons, Bool.and_eq_true, Bool.not_eq_true'] at h
    simp only [find]
    cases Nat.beq u t with
    | true => exact h.1
    | false => exact find_clean h.2 t
end Nv
namespace Nv
open Go Go.RowKit
section
variable {α : Type} [Inhabited α] (c : α → List D)
theorem app_any {l m : List α} {n k : Nat} {f g : Nat → List D} (hn : n = l.length) (hf : ∀ i, i < n → f i = c (l.getD i default)) (hk : k = m.length) (hg : ∀ i, i < k → g i = c (m.getD i default)) :
    ∀ i, i < n + k → app f n g i = c ((l ++ m).getD i default) := by
  subst hn
  subst hk
  intro i hi
  rw [← app_list c l m g hg i hi]
  unfold app
  cases hlt : Nat.blt i l.length with
  | true => have h := blt_true hlt; simp only [cond_true]; exact hf i h
  | false => rfl
theorem one_ext {x : α} {g : Nat → List D} (hg : g 0 = c x) : ∀ i, i < 1 → g i = c (([x] : List α).getD i default) := by
  intro i hi
  obtain rfl : i = 0 := by omega
  simpa using hg
end
theorem len_any {α : Type} {l m : List α} {n k : Nat} (hn : n = l.length) (hk : k = m.length) : n + k = (l ++ m).length := by simp [hn, hk]
section
variable {F : Fr} {c : Ctx} {i0 i1 : Nat} {o : Ob}
end
end Nv
namespace Nv
open Go Go.RowKit Go.Shelf Go.Sort Go.Proofs
def encD : D → Value
  | .int k n => .int k n
  | .bool b => .bool b
  | .str s => .string s
  | _ => undef
def scB : D → Bool
  | .int _ _ | .bool _ | .str _ => true
  | _ => false
theorem encD_one {d : D} (h : scB d = true) : (encD d).oneCell' = true := by cases d <;> first | rfl | cases h
theorem encD_pv {d : D} (h : scB d = true) (I : Nat → Prop) (w : World) : PV I w (encD d) d := by cases d <;> first | exact .int _ _ | exact .bool _ | exact .str _ | cases h
theorem encD_inv {d : D} (h : scB d = true) {I : Nat → Prop} {w : World} {u : Value} (k : PV I w u d) : u = encD d := by
  cases d <;> first | (cases k; rfl) | cases h
def sortP {T : Type} [Inhabited T] (cf : T → T → Int) (l : List T) : List T := (pdq (ltOf cf) l.toArray 0 l.length (Lib.bitLen l.length) true true).toList
section
variable {T : Type} [Inhabited T] {cf : T → T → Int}
theorem get_toList (a : Array T) (q : Nat) (h : q < a.size) : a[q]! = a.toList.getD q default := by
  rw [getElem!_pos a q h]; simp [h]
theorem sortP_ok (hO : SWO (ltOf cf)) (l : List T) : (sortP cf l).length = l.length ∧ (sortP cf l).Perm l ∧ (sortP cf l).Pairwise (fun x y => ltOf cf y x = false) := by
  have h := pdq_sorts (ltOf cf) hO l.toArray 0 l.length (Lib.bitLen l.length) true true (Nat.zero_le _) (by simp) (Or.inl rfl)
  obtain ⟨⟨h1, _, h3⟩, h4⟩ := h
  have hsz : (sortP cf l).length = l.length := by unfold sortP; simpa using h1
  refine ⟨hsz, ?_, ?_⟩
  · unfold sortP
    have q1 : ∀ (a : Array T), a.size = l.length → a.extract 0 l.length = a := fun a ha => by rw [← ha]; simp
    rw [q1 _ (by simpa using h1), q1 _ (by simp)] at h3
    simpa using h3
  · rw [List.pairwise_iff_getElem]
    intro i j hi hj hij
    have := h4 i j (Nat.zero_le _) hij (by rw [← hsz]; exact hj)
    unfold sortP at hi hj ⊢
    simp only [Array.length_toList] at hi hj
    rw [getElem!_pos _ j hj, getElem!_pos _ i hi] at this
    simpa using this
theorem gt_sort {P : Program} {enc : T → List Value} {k : Nat} {w : World} {b off m : Nat} {d : Array T} {os : Array Obj} (h : GT P w) (hb : ∀ g, tabG P g = true → b ≠ g) : GT P (sortWorldK enc k w b off m d os) :=
  h.of_block fun g hg => by
    have hlt := h.lt hg
    have hne := hb g hg
    simp only [sortWorldK, grow, putRowK, putRow, mapBlock, Go.Sort.ahead]
    rw [Array.getElem?_append_left (by simpa using hlt), Array.getElem?_modify, if_neg hne]
theorem grow_of_bw {w w' : World} (h : Bw w.heap.size w w') : ∃ q os, w' = grow (w.drewN q) os := by
  obtain ⟨p, hp⟩ := regrown_of_below h.toBelow
  refine ⟨w'.drawn - w.drawn, p.os, ?_⟩
  have hd := h.drawn
  have e : w'.drawn = p.d := by rw [hp]; rfl
  have : w.drewN (w'.drawn - w.drawn) = redrawn w p.d := by
    unfold World.drewN redrawn
    rw [← e, show w.drawn + (w'.drawn - w.drawn) = w'.drawn by omega]
  rw [this]; exact hp
theorem sortF {P : Program} {ρ : Ren} (L : SlLaysF0.n6 P ρ) (k : Nat) (aE : ∀ w, (isAgg (ρ.t 24)).run P w = .ok true w) (zE : ∀ w, (Go.sizeOf (ρ.t 24)).run P w = .ok k w) (c : T → List D) (hk : ∀ x, (c x).length = k) (hs : ∀ x, (c x).all scB = true)
    (hO : SWO (ltOf cf)) (g : Nat) (eg : ∀ args w, (callFunc g args).run P w = .ok (.enter g args) w) (hF : ∀ x y, Fn P g [.agg (c x), .agg (c y)] (.pure (.int .i64 (cf x y)))) (l : List T) (hl : l.length < 4611686018427387904) (hne : 0 < l.length) :
    FnM P (ρ.f 6) [.asl 0 0 l.length, .fn g []] k l.length (fun i => c (l.getD i default)) (fun i => c ((sortP cf l).getD i default)) (.tup []) := by
  intro I0 w m vs hGT hgm hI0 hm hov hvs
  -- the arguments
  have hsz : vs.size = 2 := hvs.1
  have hv0 := hvs.2 0 vs[0] (.asl 0 0 l.length) (by simp [hsz]) rfl
  have hv1 := hvs.2 1 vs[1] (.fn g []) (by simp [hsz]) rfl
  simp only [AV, CV] at hv0
  obtain ⟨wd1, n1, f1, a, cap, hH, hle, hv0, hcap, hor⟩ := hv0
  simp only [Lctx, List.getElem?_cons_zero, Option.some.injEq, Ob.arr.injEq] at hH
  obtain ⟨rfl, rfl, rfl⟩ := hH
  obtain ⟨cb, hv1, hcb⟩ := hv1
  have hcb0 : cb = #[] := by
    have := hcb.1
    simp at this
    exact this
  subst hcb0
  rcases hor with h0 | ⟨b, hmu, rfl, hroom⟩
  · omega
  simp only [Lctx, if_true] at hmu
  subst hmu
  have hvs' : vs = #[.slice (some ⟨b, 0, none⟩) l.length cap, .func (.func g) #[] #[]] := by
    apply Array.ext (by simp [hsz])
    intro i h1 h2
    rcases i with _ | _ | i
    · simpa using hv0
    · simpa using hv1
    · simp at h2; omega
  subst hvs'
  obtain ⟨hlen, hov⟩ := hov
  rcases hov with ⟨h1, _⟩ | ⟨b', cs, TT, hb', hheap, hsize, hcell⟩
  · cases h1
  cases hb'
  have hheap : w.heap[b]? = some (.cells cs TT (0, 0)) := hheap
  let enc : T → List Value := fun x => (c x).map encD
  have hek : ∀ x, (enc x).length = k := fun x => by simp [enc, hk]
  have he1 : ∀ x, ∀ v ∈ enc x, v.oneCell' = true := fun x v hv => by
    simp only [enc, List.mem_map] at hv
    obtain ⟨d, hd, rfl⟩ := hv
    exact encD_one (List.all_eq_true.1 (hs x) d hd)
  have hblt : b < w.heap.size := (hm b rfl).1
  have hsd : l.toArray.size = l.length := by simp
  have hH : HoldsK enc k w b 0 l.toArray := by
    intro j hj
    rw [size_flatK, hsd] at hj
    have k0 : 0 < k := by rcases Nat.eq_zero_or_pos k with h | h; · subst h; simp at hj
                          · exact h
    have hi : j / k < l.length := by rw [Nat.div_lt_iff_lt_mul k0]; exact hj
    have hmod : j % k < k := Nat.mod_lt _ k0
    have hx : l.toArray[j / k]! = l.getD (j / k) default := get_toList _ _ (by simpa using hi)
    obtain ⟨d, hd⟩ : ∃ d, (c (l.getD (j / k) default))[j % k]? = some d := ⟨_, List.getElem?_eq_getElem (by rw [hk]; exact hmod)⟩
    obtain ⟨v, hv, _, hpv⟩ := hcell (j / k) hi (j % k) d hd
    have hsc := List.all_eq_true.1 (hs (l.getD (j / k) default)) d (List.mem_of_getElem? hd)
    have hve := encD_inv hsc hpv
    rw [Nat.mul_comm, Nat.div_add_mod] at hv
    refine ⟨?_, ?_⟩
    · rw [get_flatK _ _ _ _ (by rw [hsd]; exact hj), hx]
      have e2 : (enc (l.getD (j / k) default))[j % k]! = v := by
        have : (enc (l.getD (j / k) default))[j % k]? = some (encD d) := by simp only [enc, List.getElem?_map, hd, Option.map_some]
        rw [List.getElem!_of_getElem? this, hve]
      rw [e2]
      simp only [World.cell?, hheap, Nat.zero_add]
      simpa using hv
    · simp [World.frozen?, hheap]
  have hcmp : CmpLays P g #[] enc k cf b 0 l.toArray.size w := by
    intro q os dk _ x y
    have hW : GT P (sortWorldK enc k w b 0 q dk os) := gt_sort hGT fun gg hg e => hgm gg hg (by rw [e])
    have hargs : Vs (AV (NoCtx (fun _ => False) (sortWorldK enc k w b 0 q dk os))) #[.agg (enc x).toArray, .agg (enc y).toArray] [.agg (c x), .agg (c y)] := by
      have one : ∀ z, AV (NoCtx (fun _ => False) (sortWorldK enc k w b 0 q dk os)) (.agg (enc z).toArray) (.agg (c z)) := fun z => by
        refine ⟨_, rfl, by simp [enc], fun i v d h1 h2 => ?_⟩
        have hsc := List.all_eq_true.1 (hs z) d (List.mem_of_getElem? h2)
        have hv : v = encD d := by
          simp only [enc, List.getElem?_toArray, List.getElem?_map, h2, Option.map_some, Option.some.injEq] at h1
          exact h1.symm
        rw [hv]
        exact cv_pv (encD_pv hsc _ _)
      refine ⟨rfl, fun i v d h1 h2 => ?_⟩
      rcases i with _ | _ | i
      · simp at h1 h2; subst h1; subst h2; exact one x
      · simp at h1 h2; subst h1; subst h2; exact one y
      · simp at h2
    refine (hF x y (fun _ => False) _ _ hW (fun _ h => h.elim) hargs).mono ?_
    rintro e w' ⟨v, I1, rfl, hbw, _, hrv⟩
    have hv : v = .int .i64 (cf x y) := by
      have : PV I1 w' v (.int .i64 (cf x y)) := hrv
      cases this; rfl
    subst hv
    obtain ⟨q2, os2, h2⟩ := grow_of_bw hbw
    exact ⟨rfl, q2, os2, h2⟩
  have hmain := AnyQ.slices_SortFunc_eq L k aE zE enc hek he1 cf hO g #[] b 0 cap l.toArray w eg hcmp hH hblt (by simpa using hl)
  rw [hsd] at hmain
  refine hmain.mono ?_
  rintro e w' ⟨rfl, q, os, rfl⟩
  obtain ⟨hsl, _, _⟩ := sortP_ok hO l
  have hps : (pdq (ltOf cf) l.toArray 0 l.length (Lib.bitLen l.length) true true).size = l.length := by
    have := hsl; unfold sortP at this; simpa using this
  generalize hd' : pdq (ltOf cf) l.toArray 0 l.length (Lib.bitLen l.length) true true = d' at *
  have hw'b : (sortWorldK enc k w b 0 q d' os).heap[b]? = some (.cells (putCells id 0 (flatK enc k d') cs) TT (0, 0)) := by
    simp only [sortWorldK, grow, putRowK, putRow, mapBlock, Go.Sort.ahead]
    rw [Array.getElem?_append_left (by simpa using hblt), Array.getElem?_modify, if_pos rfl, hheap]
    rfl
  have hother : ∀ j, j < w.heap.size → j ≠ b → (sortWorldK enc k w b 0 q d' os).heap[j]? = w.heap[j]? := fun j hj hne => by
    simp only [sortWorldK, grow, putRowK, putRow, mapBlock, Go.Sort.ahead]
    rw [Array.getElem?_append_left (by simpa using hj), Array.getElem?_modify, if_neg (Ne.symm hne)]
  refine ⟨.tuple #[], I0, rfl, ⟨rfl, rfl, rfl, ?_, ?_, fun j hj hnl => ?_, fun j hj => ?_⟩, fun _ h => .inl h, ⟨fun i hi => hk _, .inr ⟨b, _, TT, rfl, hw'b, ?_, fun i hi j d hd => ?_⟩⟩, ⟨#[], rfl, rfl, fun i v d h1 _ => by simp at h1⟩⟩
  · simp [sortWorldK, grow, putRowK, putRow, mapBlock, Go.Sort.ahead]
  · simp [sortWorldK, grow, putRowK, putRow, mapBlock, Go.Sort.ahead]
  · exact hother j hj fun e => hnl (by simp [Fr.lent, e])
  · simp only [Fr.lent, List.mem_singleton, Option.some.injEq] at hj
    subst hj
    exact ⟨cs, _, TT, hheap, hw'b, by simp [putCells]⟩
  · simpa [putCells] using hsize
  · have hi' : i < d'.size := by rw [hps]; exact hi
    have hx : (sortP cf l).getD i default = d'[i]! := by unfold sortP; rw [hd', get_toList _ _ hi']
    have hd : (c ((sortP cf l).getD i default))[j]? = some d := hd
    rw [hx] at hd
    have hjk : j < k := by have := (List.getElem?_eq_some_iff.1 hd).1; rwa [hk] at this
    have hsc := List.all_eq_true.1 (hs d'[i]!) d (List.mem_of_getElem? hd)
    refine ⟨encD d, ?_, encD_one hsc, encD_pv hsc _ _⟩
    have hlt : i * k + j < d'.size * k := by
      have := Nat.mul_le_mul_right k (show i + 1 ≤ d'.size from hi'); rw [Nat.add_mul, Nat.one_mul] at this; omega
    have hcs : i * k + j < cs.size := by rw [hps] at hlt; omega
    have e1 : (i * k + j) / k = i := (blk_iff k i _ (by omega)).1 ⟨by omega, by omega⟩
    have e2 : (i * k + j) % k = j := by rw [Nat.mod_eq_sub_div_mul, e1]; omega
    simp only [putCells, Array.getElem?_mapIdx, Nat.zero_add, Nat.sub_zero, Nat.zero_le, true_and, size_flatK, id]
    rw [Array.getElem?_eq_getElem hcs, Option.map_some, if_pos hlt, get_flatK _ _ _ _ hlt, e1, e2]
    congr 1
    have : (enc d'[i]!)[j]? = some (encD d) := by simp only [enc, List.getElem?_map, hd, Option.map_some]
    rw [List.getElem!_of_getElem? this]
end
end Nv
namespace Nv
open Go Go.RowKit Go.Shelf Go.Sort Go.Proofs
section
variable {T : Type} [Inhabited T]
def SortOK (cmp : T → T → Option Int) : Prop := ∃ cf : T → T → Int, (∀ x y, cmp x y = some (cf x y)) ∧ SWO (ltOf cf)
open Classical in
noncomputable def sortM (cmp : T → T → Option Int) (l : List T) : Option (List T) := if h : SortOK cmp ∧ l.length < 4611686018427387904 then some (sortP h.1.choose l) else none
theorem sortM_some {cmp : T → T → Option Int} {l r : List T} (h : sortM cmp l = some r) : ∃ cf : T → T → Int, (∀ x y, cmp x y = some (cf x y)) ∧ SWO (ltOf cf) ∧ l.length < 4611686018427387904 ∧ r = sortP cf l := by
  unfold sortM at h
  split at h
  · rename_i hx
    exact ⟨hx.1.choose, hx.1.choose_spec.1, hx.1.choose_spec.2, hx.2, (Option.some.inj h).symm⟩
  · cases h
theorem sortM_eq {cmp : T → T → Option Int} {cf : T → T → Int} (hc : ∀ x y, cmp x y = some (cf x y)) (hO : SWO (ltOf cf)) {l : List T} (hl : l.length < 4611686018427387904) : sortM cmp l = some (sortP cf l) := by
  have hx : SortOK cmp ∧ l.length < 4611686018427387904 := ⟨⟨cf, hc, hO⟩, hl⟩
  unfold sortM
  rw [dif_pos hx]
  have : hx.1.choose = cf := by
    funext x y
    have h1 := hx.1.choose_spec.1 x y
    rw [hc x y] at h1
    exact (Option.some.inj h1).symm
  rw [this]
end
section
variable {T : Type}
theorem swo_sorted_unique {lt : T → T → Bool} (hO : SWO lt) : ∀ {s t : List T}, s.Perm t → s.Pairwise (fun x y => lt y x = false) → t.Pairwise (fun x y => lt x y = true) → s = t
  | [], t, hp, _, _ => (List.nil_perm.1 hp).symm
  | x :: s, [], hp, _, _ => by have := hp.length_eq; simp at this
  | x :: s, y :: t, hp, h1, h2 => by
    rw [List.pairwise_cons] at h1 h2
    have hy : y ∈ x :: s := hp.symm.subset List.mem_cons_self
    have hx : x ∈ y :: t := hp.subset List.mem_cons_self
    have e : x = y := by
      rcases List.mem_cons.1 hx with e | hx
      · exact e
      · rcases List.mem_cons.1 hy with e | hy
        · exact e.symm
        · have a1 := h1.1 y hy
          have a2 := h2.1 x hx
          rw [a2] at a1; cases a1
    subst e
    rw [swo_sorted_unique hO (List.Perm.cons_inv hp) h1.2 h2.2]
def insK (cmp : T → T → Option Int) (x : T) : List T → Option (List T)
  | [] => some [x]
  | y :: t => match cmp x y with
    | none => none
    | some c => bif decide (c < 0) then some (x :: y :: t) else match insK cmp x t with
      | none => none
      | some r => some (y :: r)
def isoK (cmp : T → T → Option Int) : List T → Option (List T)
  | [] => some []
  | x :: l => match isoK cmp l with
    | none => none
    | some r => insK cmp x r
def ascK (cmp : T → T → Option Int) : List T → Bool
  | x :: y :: t => (match cmp x y with | some c => decide (c < 0) | none => false) && ascK cmp (y :: t)
  | _ => true
def sortK (cmp : T → T → Option Int) (l : List T) : Option (List T) := match isoK cmp l with
  | none => none
  | some r => bif ascK cmp r && Nat.ble l.length 1000 then some r else none
theorem insK_perm {cmp : T → T → Option Int} {x : T} : ∀ {l r : List T}, insK cmp x l = some r → r.Perm (x :: l)
  | [], r, h => by simp only [insK, Option.some.injEq] at h; subst h; exact List.Perm.refl _
  | y :: t, r, h => by
    simp only [insK] at h
    split at h <;> try cases h
    rename_i c _
    cases hb : decide (c < 0) with
    | true => rw [hb] at h; simp only [cond_true, Option.some.injEq] at h; subst h; exact List.Perm.refl _
    | false =>
      rw [hb] at h
      simp only [cond_false] at h
      split at h <;> try cases h
      rename_i r' hr
      exact ((insK_perm hr).cons y).trans (List.Perm.swap x y t)
theorem isoK_perm {cmp : T → T → Option Int} : ∀ {l r : List T}, isoK cmp l = some r → r.Perm l
  | [], r, h => by simp only [isoK, Option.some.injEq] at h; subst h; exact List.Perm.refl _
  | x :: l, r, h => by
    simp only [isoK] at h
    split at h <;> try cases h
    rename_i r' hr
    exact (insK_perm h).trans ((isoK_perm hr).cons x)
theorem ascK_all {kc mc : T → T → Option Int} (hk : ∀ x y, Ref (kc x y) (mc x y)) {cf : T → T → Int} (hc : ∀ x y, mc x y = some (cf x y)) (hO : SWO (ltOf cf)) : ∀ {l : List T}, ascK kc l = true → l.Pairwise (fun x y => ltOf cf x y = true)
  | [], _ => List.Pairwise.nil
  | [x], _ => by simp
  | x :: y :: t, h => by
    simp only [ascK, Bool.and_eq_true] at h
    have ih := ascK_all hk hc hO (l := y :: t) h.2
    have h1 : ltOf cf x y = true := by
      have h3 := h.1
      split at h3
      · rename_i c hcx
        have := hk x y c hcx
        rw [hc] at this
        cases this
        exact h3
      · cases h3
    rw [List.pairwise_cons]
    refine ⟨fun z hz => ?_, ih⟩
    rcases List.mem_cons.1 hz with rfl | hz
    · exact h1
    · exact hO.trans _ _ _ h1 ((List.pairwise_cons.1 ih).1 z hz)
end
section
variable {T : Type} [Inhabited T]
theorem ref_sort {kc mc : T → T → Option Int} (hk : ∀ x y, Ref (kc x y) (mc x y)) (ok : SortOK mc) {l : List T} : Ref (sortK kc l) (sortM mc l) := by
  intro r hr
  unfold sortK at hr
  split at hr <;> try cases hr
  rename_i r' hi
  cases hb : (ascK kc r' && Nat.ble l.length 1000) with
  | false => rw [hb] at hr; cases hr
  | true =>
    rw [hb] at hr
    simp only [cond_true, Option.some.injEq] at hr
    subst hr
    simp only [Bool.and_eq_true] at hb
    have hlen := Nat.le_of_ble_eq_true hb.2
    obtain ⟨cf, hc, hO⟩ := ok
    rw [sortM_eq hc hO (by omega)]
    obtain ⟨_, h2, h3⟩ := sortP_ok hO l
    rw [swo_sorted_unique hO (h2.trans (isoK_perm hi).symm) h3 (ascK_all hk hc hO hb.1)]
end
end Nv
namespace Nv
open Go Go.RowKit Go.Shelf Go.Sort Go.Proofs
section
variable {T : Type} [Inhabited T]
theorem sortF0 {P : Program} {ρ : Ren} (L : SlLaysF0.n6 P ρ) (k : Nat) (aE : ∀ w, (isAgg (ρ.t 24)).run P w = .ok true w) (zE : ∀ w, (Go.sizeOf (ρ.t 24)).run P w = .ok k w) (c : T → List D) (hk : ∀ x, (c x).length = k) (hs : ∀ x, (c x).all scB = true)
    {cf : T → T → Int} (hO : SWO (ltOf cf)) (g : Nat) (eg : ∀ args w, (callFunc g args).run P w = .ok (.enter g args) w) (hF : ∀ x y, Fn P g [.agg (c x), .agg (c y)] (.pure (.int .i64 (cf x y)))) (l : List T) (hl : l.length < 4611686018427387904) :
    FnM P (ρ.f 6) [.asl 0 0 l.length, .fn g []] k l.length (fun i => c (l.getD i default)) (fun i => c ((sortP cf l).getD i default)) (.tup []) := by
  rcases Nat.eq_zero_or_pos l.length with h0 | h0
  · obtain rfl := List.eq_nil_of_length_eq_zero h0
    have hp : sortP cf ([] : List T) = [] := List.eq_nil_of_length_eq_zero (by rw [(sortP_ok hO []).1]; rfl)
    rw [hp]
    intro I0 w m vs hGT hgm hI0 hm hov hvs
    have hsz : vs.size = 2 := hvs.1
    have hv0 := hvs.2 0 vs[0] (.asl 0 0 0) (by simp [hsz]) rfl
    have hv1 := hvs.2 1 vs[1] (.fn g []) (by simp [hsz]) rfl
    simp only [AV, CV] at hv0
    obtain ⟨wd1, n1, f1, a, cap, hH, hle, hv0, hcap, hor⟩ := hv0
    have hvs' : vs = #[.slice a 0 cap, vs[1]] := by
      apply Array.ext (by simp [hsz])
      intro i h1 h2
      rcases i with _ | _ | i
      · simpa using hv0
      · simp
      · simp at h2; omega
    rw [hvs']
    refine (AnyF.slices_SortFunc_none L a cap _ w).mono ?_
    rintro e w' ⟨rfl, rfl⟩
    refine ⟨.tuple #[], I0, rfl, ⟨rfl, rfl, rfl, Nat.le_refl _, Nat.le_refl _, fun _ _ _ => rfl, fun j hj => ?_⟩, fun _ h => .inl h, hov, ⟨#[], rfl, rfl, fun i v d h1 _ => by simp at h1⟩⟩
    simp only [Fr.lent, List.mem_singleton] at hj
    subst hj
    obtain ⟨_, hov⟩ := hov
    rcases hov with ⟨h1, _⟩ | ⟨b', cs, TT, hb', hheap, _⟩
    · cases h1
    · cases hb'
      exact ⟨cs, cs, TT, hheap, hheap, rfl⟩
  · exact sortF L k aE zE c hk hs hO g eg hF l hl h0
end
end Nv
namespace Nv
open Go
section
variable {α : Type} [Inhabited α] (cmp : α → α → Option Int)
end
end Nv
namespace Nv
open Go
section
variable {α : Type} [Inhabited α]
theorem wrN {n : Int} (h0 : 0 ≤ n) (h1 : n ≤ 9223372036854775807) : wr .i64 n = n := by
  unfold wr
  rw [IntWalk.i64_in _ (by omega)]
abbrev at' (l : List α) (k : Nat) : α := l.getD k default
def swp (l : List α) (i j : Nat) : List α := (l.set i (at' l j)).set j (at' l i)
@[simp] theorem swp_len (l : List α) (i j : Nat) : (swp l i j).length = l.length := by simp [swp]
end
section
variable {α : Type}
structure SW (lt : α → α → Bool) : Prop where
  irr : ∀ x, lt x x = false
  tr : ∀ x y z, lt x y = true → lt y z = true → lt x z = true
  ntr : ∀ x y z, lt x y = false → lt y z = false → lt x z = false
variable {lt : α → α → Bool}
def eqv (lt : α → α → Bool) (e x : α) : Bool := !lt e x && !lt x e
end
section
variable {α : Type} [Inhabited α] {lt : α → α → Bool}
structure Rng (lt : α → α → Bool) (a b : Nat) (l l' : List α) : Prop where
  len : l'.length = l.length
  out : ∀ k, k < a ∨ b ≤ k → at' l' k = at' l k
  stab : ∀ e, l'.filter (eqv lt e) = l.filter (eqv lt e)
  src : ∀ k, a ≤ k → k < b → ∃ k', a ≤ k' ∧ k' < b ∧ at' l' k = at' l k'
theorem Rng.refl (a b : Nat) (l : List α) : Rng lt a b l l := ⟨rfl, fun _ _ => rfl, fun _ => rfl, fun k h1 h2 => ⟨k, h1, h2, rfl⟩⟩
theorem Rng.trans {a b : Nat} {l m n : List α} (h : Rng lt a b l m) (k : Rng lt a b m n) : Rng lt a b l n :=
  ⟨k.len.trans h.len, fun i hi => (k.out i hi).trans (h.out i hi), fun e => (k.stab e).trans (h.stab e), fun i h1 h2 => by
    obtain ⟨j, j1, j2, j3⟩ := k.src i h1 h2
    obtain ⟨p, p1, p2, p3⟩ := h.src j j1 j2
    exact ⟨p, p1, p2, j3.trans p3⟩⟩
theorem Rng.mono {a b a' b' : Nat} {l m : List α} (h : Rng lt a b l m) (ha : a' ≤ a) (hb : b ≤ b') : Rng lt a' b' l m :=
  ⟨h.len, fun k hk => h.out k (by omega), h.stab, fun k h1 h2 => by
    by_cases hk : a ≤ k ∧ k < b
    · obtain ⟨j, j1, j2, j3⟩ := h.src k hk.1 hk.2
      exact ⟨j, by omega, by omega, j3⟩
    · exact ⟨k, h1, h2, h.out k (by omega)⟩⟩
def Srt (lt : α → α → Bool) (a b : Nat) (l : List α) : Prop := ∀ i j, a ≤ i → i < j → j < b → lt (at' l j) (at' l i) = false
theorem Srt.out {a b p q : Nat} {l l' : List α} (h : Srt lt p q l) (k : Rng lt a b l l') (hd : q ≤ a ∨ b ≤ p) : Srt lt p q l' := by
  intro i j h1 h2 h3
  rw [k.out i (by omega), k.out j (by omega)]
  exact h i j h1 h2 h3
end
section
variable {α : Type} {lt : α → α → Bool}
end
section
variable {α : Type} [Inhabited α] {lt : α → α → Bool}
end
end Nv
namespace Nv
open Go
section
variable {α : Type} [Inhabited α]
variable {cmp : α → α → Option Int} {c : α → α → Int}
theorem gdT {β : Type} {l : List Bool} {k : Option β} (h : l.all id = true) : gd l k = k := by unfold gd; rw [h]; rfl
end
end Nv
namespace Nv
open Go Go.RowKit
theorem env_from {ops : Array Oper} (hnd : dstsB ops = true) {nt k0 n : Nat} {E : Nat → List (Nat × D)} {V : Nat → D} {env0 : List (Nat × D)} (hbase : ∀ t, find (E k0) t = valL ops V env0 (· < k0) t)
    (hput : ∀ i, k0 ≤ i → i < n → ∃ o, ops[i]? = some o ∧ putE nt o.dst (V i) (E i) = some (E (i + 1))) : ∀ m, k0 + m ≤ n → ∀ t, find (E (k0 + m)) t = valL ops V env0 (· < k0 + m) t
  | 0, _, t => hbase t
  | m + 1, hk, t => by
    have ih := env_from hnd hbase hput m (by omega) t
    obtain ⟨o, ho, hp⟩ := hput (k0 + m) (by omega) (by omega)
    rw [← Nat.add_assoc]
    generalize k0 + m = k at *
    unfold putE at hp
    split at hp
    · rename_i hd
      simp only [Option.some.injEq] at hp
      rw [← hp, ih]
      refine valL_congr hnd fun i hi => ⟨fun h => by omega, fun h => ?_⟩
      rcases Nat.lt_or_ge i k with h1 | h1
      · exact h1
      · have : i = k := by omega
        subst this
        rw [ho] at hi
        simp [hd] at hi
    · rename_i u hd
      cases hlt : Nat.blt u nt with
      | false => rw [hlt] at hp; cases hp
      | true =>
        rw [hlt] at hp
        simp only [cond_true, Option.some.injEq] at hp
        rw [← hp]
        simp only [find]
        have hku : (ops[k]?).bind (·.dst) = some u := by rw [ho]; exact hd
        cases hb : Nat.beq u t with
        | true =>
          obtain rfl := Nat.eq_of_beq_eq_true hb
          simp only [cond_true]
          exact (valL_some hnd hku (Nat.lt_succ_self k)).symm
        | false =>
          simp only [cond_false]
          rw [ih]
          refine valL_congr hnd fun i hi => ⟨fun h => by omega, fun h => ?_⟩
          rcases Nat.lt_or_ge i k with h1 | h1
          · exact h1
          · have : i = k := by omega
            subst this
            rw [hku] at hi
            cases hi
            rw [Nat.beq_refl] at hb; cases hb
theorem flow_of {ops : Array Oper} (hfl : flowB ops = true) : ∀ i o, ops[i]? = some o → flowAt ops (Region.before ops) i o = true := by
  simp only [flowB, Bool.and_eq_true, List.all_eq_true] at hfl
  intro i o ho
  refine hfl.2 (o, i) ?_
  rw [List.mem_zipIdx_iff_getElem?]
  simpa using ho
theorem set_iff {listed : Array Bool} {i : Nat} (hi : i < listed.size) (j : Nat) : (listed.setIfInBounds i true).getD j false = true ↔ j = i ∨ listed.getD j false = true := by
  by_cases hji : j = i
  · subst hji; simp [hi]
  · rw [getD_set_ne false (Ne.symm hji)]; simp [hji]
theorem dstep {P : Program} {F : Fr} [GF P F] {nt : Nat} {ops : Array Oper} {H : List Ob} {V : Nat → D} {env0 Ei : List (Nat × D)} (hfl : flowB ops = true) {listed : Array Bool} {a : Act} {c : Ctx} (hD : DInv F nt ops H V env0 listed a c)
    {i : Nat} {o : Oper} (ho : ops[i]? = some o) (hunf : listed.getD i false = false) (hall : ∀ e ∈ o.after, Region.binds .any e = true → listed.getD e.on false = true)
    (hval : ∀ t, find Ei t = valL ops V env0 (· < i) t) {orc orc1 : List Res} {b : List Bool} {r : List Req} (hstep : stepDr P ops i H Ei orc o = some (V i, b, r, orc1)) (hb : ∀ x ∈ b, x = true) (hq : ∀ q ∈ r, q.ok P) (hnt : ∀ t, o.dst = some t → t < nt)
    {Q : Exit → Act → World → Prop} {K : Act → World → Prop} (hK : ∀ a' c', DInv F nt ops H V env0 (listed.setIfInBounds i true) a' c' → K a' c'.w) : wpOp P ops Q i K a c.w := by
  have hnd : dstsB ops = true := by simp only [flowB, Bool.and_eq_true] at hfl; exact hfl.1
  have hilt := (Array.getElem?_eq_some_iff.1 ho).1
  have hwaits : ∀ j, Waits ops i j → listed.getD j false = true := fun j ⟨o', ho', e, he, hbi, hon⟩ => by
    rw [ho] at ho'
    cases ho'
    rw [← hon]
    exact hall e he hbi
  have hfa := flow_of hfl i o ho
  simp only [flowAt, Bool.and_eq_true] at hfa
  obtain ⟨⟨hf1, hf2⟩, hf3⟩ := hfa
  have same : ∀ t ∈ needs ops o, valL ops V env0 (fun i => listed.getD i false = true) t = find Ei t := fun t ht => by
    rw [hval t]
    refine valL_congr hnd fun k hk => ?_
    have h1 := List.all_eq_true.1 hf3 t ht
    obtain ⟨ok, hok, hdk⟩ := Option.bind_eq_some_iff.1 hk
    have hklt := (Array.getElem?_eq_some_iff.1 hok).1
    have h2 := List.all_eq_true.1 h1 (ok, k) (by rw [List.mem_zipIdx_iff_getElem?]; simpa using hok)
    simp only [hdk] at h2
    have e1 : Nat.beq t t = true := Nat.beq_refl t
    rw [e1] at h2
    simp only [Bool.not_true, Bool.false_or, Bool.or_eq_true, Bool.and_eq_true] at h2
    rcases h2 with (h2 | ⟨h2, h3⟩) | ⟨h2, h3⟩
    · obtain rfl := Nat.eq_of_beq_eq_true h2
      exact ⟨fun h => (by rw [hunf] at h; cases h), fun h => by omega⟩
    · exact ⟨fun _ => blt_true h2, fun _ => closed_reach hD.closed (before_reach ops i k hilt h3) hwaits⟩
    · have hik := blt_true h2
      refine ⟨fun h => ?_, fun h => by omega⟩
      have := closed_reach hD.closed (before_reach ops k i hklt h3) (fun j hj => hD.closed _ _ hj h)
      rw [hunf] at this
      cases this
  have hops : ∀ x ∈ o.op.operands.toList, GV (yielded ops a.tmps) c (a.eval x) (evD Ei x) := fun x hx => by
    cases x with
    | tmp t =>
      show GV _ _ _ (find Ei t)
      rw [← same t (by simp only [needs, List.mem_append, List.mem_filterMap]; exact .inl ⟨.tmp t, hx, rfl⟩)]
      exact hD.env t
    | const v => exact gv_of_tv (tv_dv c v)
    | global g => exact gv_of_tv tv_any
    | func f => exact gv_of_tv ⟨#[], rfl, rfl, fun i v d h1 _ => by simp at h1⟩
  have hgf : GuardFacts ops a c Ei (gch ops 20 o.guard) := fun p hp t ht => by
    rw [← same t (by simp only [needs, List.mem_append, List.mem_filterMap]; exact .inr ⟨p, hp, ht⟩)]
    exact hD.env t
  have hL := set_iff (listed := listed) (i := i) (by rw [hD.lsize]; exact hilt)
  have new : ∀ v c', Inv F c' → Goes c c' → (∀ d, V i = d → GV (yielded ops (a.put o.dst v).tmps) c' v d) → (∀ j w d, V i = .opt j w d → listed.getD j false = true) → K (a.put o.dst v) c'.w := fun v c' hI' hgo hv hvo => by
    have hvalo : ∀ t, (∀ u, o.dst = some u → u ≠ t) → valL ops V env0 (fun j => (listed.setIfInBounds i true).getD j false = true) t = valL ops V env0 (fun j => listed.getD j false = true) t := fun t ht => by
      refine valL_congr hnd fun k hk => ?_
      show (listed.setIfInBounds i true).getD k false = true ↔ _
      rw [hL]
      refine ⟨fun h => ?_, .inr⟩
      rcases h with rfl | h
      · rw [ho] at hk
        exact absurd rfl (ht t hk)
      · exact h
    have hyj : ∀ j, listed.getD j false = true → yielded ops (a.put o.dst v).tmps j = yielded ops a.tmps j := fun j hj => yielded_put fun t ht e => by
      have := dsts_spec hnd (show (ops[i]?).bind (·.dst) = some t by rw [ho]; exact ht) e
      subst this
      rw [hunf] at hj
      cases hj
    have keep : ∀ t, GV (yielded ops (a.put o.dst v).tmps) c' (a.tmps.getD t undef) (valL ops V env0 (fun j => listed.getD j false = true) t) := fun t => by
      have h1 := hgo.gv (hD.env t)
      cases hf : valL ops V env0 (fun j => listed.getD j false = true) t <;> rw [hf] at h1 <;> try exact h1
      rename_i j w d
      simp only [GV] at h1 ⊢
      rw [hyj j (hD.opt t j w d hf)]
      exact h1
    refine hK _ c' ⟨by rw [hgo.H]; exact hD.H, hI', fun t => ?_, by rw [size_put]; exact hD.size, by rw [defers_put]; exact hD.defers, fun t j w d hf => ?_, by simp [hD.lsize], fun p q hpq hp => ?_⟩
    · by_cases hdt : o.dst = some t
      · have hit : (ops[i]?).bind (·.dst) = some t := by rw [ho]; exact hdt
        rw [valL_some hnd hit ((hL i).2 (.inl rfl))]
        have e : (a.put o.dst v).tmps.getD t undef = v := by rw [hdt]; exact getD_put_same (by rw [hD.size]; exact hnt t hdt)
        rw [e]
        exact hv _ rfl
      · rw [hvalo t (fun u hu e => hdt (by rw [hu, e])), getD_put hdt]
        exact keep t
    · rw [hL]
      right
      by_cases hdt : o.dst = some t
      · have hit : (ops[i]?).bind (·.dst) = some t := by rw [ho]; exact hdt
        rw [valL_some hnd hit ((hL i).2 (.inl rfl))] at hf
        exact hvo j w d hf
      · rw [hvalo t (fun u hu e => hdt (by rw [hu, e]))] at hf
        exact hD.opt t j w d hf
    · rw [hL] at hp ⊢
      right
      rcases hp with rfl | hp
      · exact hwaits q hpq
      · exact hD.closed p q hpq hp
  unfold stepDr at hstep
  split at hstep <;> try cases hstep
  rename_i g hg
  unfold wpOp
  simp only [ho]
  split at hstep
  · rename_i d bs0 rq0 orc2 j want hop hgd
    cases hlt : Nat.blt j i with
    | false => simp [hlt] at hstep
    | true =>
      simp only [hlt, cond_true, Option.some.injEq, Prod.mk.injEq] at hstep
      obtain ⟨hV, rfl, rfl, rfl⟩ := hstep
      have hji := blt_true hlt
      have hyj : ∀ v, yielded ops (a.put o.dst v).tmps j = yielded ops a.tmps j := fun v => yielded_put fun t ht e => by
        have := dsts_spec hnd (show (ops[i]?).bind (·.dst) = some t by rw [ho]; exact ht) e
        omega
      have hjl : listed.getD j false = true := by
        rw [hgd] at hf2
        simp only at hf2
        obtain ⟨e, he, h1⟩ := Array.any_eq_true'.1 hf2
        simp only [Bool.and_eq_true] at h1
        rw [← Nat.eq_of_beq_eq_true h1.2]
        exact hall e he h1.1
      have hwant : Region.wanted o (yielded ops a.tmps) = (yielded ops a.tmps j == some want) := by simp [Region.wanted, hgd]
      have hvo : ∀ j' w d', V i = .opt j' w d' → listed.getD j' false = true := fun j' w d' h => by rw [← hV] at h; cases h; exact hjl
      cases hw : Region.wanted o (yielded ops a.tmps) with
      | true =>
        simp only [if_true]
        refine .inl (op_sound hD.inv hops hgf hg hw (by rw [hD.H]; exact hop) hb hq fun v c' hI' haf => ?_)
        obtain ⟨hgo, _, htv⟩ := haf
        refine new v c' hI' hgo (fun d' hd' => ?_) hvo
        rw [← hd', ← hV]
        refine .inl ⟨?_, htv⟩
        rw [hyj]
        rw [hw] at hwant
        simpa using hwant.symm
      | false =>
        simp only [Bool.false_eq_true, if_false]
        refine new undef c hD.inv (Goes.refl hD.inv) (fun d' hd' => ?_) hvo
        rw [← hd', ← hV]
        refine .inr ⟨?_, rfl⟩
        rw [hyj]
        rw [hw] at hwant
        simpa using hwant.symm
  · rename_i d bs0 rq0 orc2 hop hgd
    simp only [Option.some.injEq, Prod.mk.injEq] at hstep
    obtain ⟨hV, rfl, rfl, rfl⟩ := hstep
    have hw : Region.wanted o (yielded ops a.tmps) = true := by simp [Region.wanted, hgd]
    simp only [hw, if_true]
    refine .inl (op_sound hD.inv hops hgf hg hw (by rw [hD.H]; exact hop) hb hq fun v c' hI' haf => ?_)
    obtain ⟨hgo, _, htv⟩ := haf
    refine new v c' hI' hgo (fun d' hd' => ?_) (fun j w d' h => ?_)
    · rw [← hd', ← hV]; exact gv_of_tv htv
    · rw [← hV] at h
      subst h
      simp only [TV, AV] at htv
      exact absurd htv cv_not_opt
  · cases hstep
end Nv
namespace Nv
open Go Go.RowKit
def cutAt (ops : Array Oper) (k : Nat) : Bool :=
  let M := Region.before ops
  (List.range ops.size).all fun q => Nat.blt q k || (List.range k).all fun p => (M.getD q 0).testBit p
theorem cutAt_spec {ops : Array Oper} {k p q : Nat} (h : cutAt ops k = true) (hq : q < ops.size) (hk : k ≤ q) (hp : p < k) : ((Region.before ops).getD q 0).testBit p = true := by
  have h1 := List.all_eq_true.1 h q (List.mem_range.2 hq)
  rw [show Nat.blt q k = false by (cases hb : Nat.blt q k with | false => rfl | true => have := blt_true hb; omega), Bool.false_or] at h1
  exact List.all_eq_true.1 h1 p (List.mem_range.2 hp)
def QK (Q : Exit → Act → World → Prop) (K : Act → World → Prop) : Exit → Act → World → Prop
  | .normal, a, w => K a w
  | e, a, w => Q e a w
theorem wp_qk {P : Program} {o : Oper} {a : Act} {w : World} {Q : Exit → Act → World → Prop} {K K1 K2 : Act → World → Prop} (h : ∀ a w, K1 a w → K2 a w) (hh : o.wp P a w K1 (QK Q K)) : o.wp P a w K2 Q := by
  unfold Oper.wp at *
  generalize (execOp a.eval o).run P w = r at *
  cases r with
  | ok n w' =>
    cases n <;> simp only [Oper.upon] at hh ⊢ <;>
      first
        | exact h _ _ hh
        | exact Calls.mono hh (fun e w'' he => by cases e <;> first | exact h _ _ he | exact he)
        | exact Rows.mono hh (fun _ _ he => h _ _ he)
  | halt x w' => cases x <;> simp only [Oper.upon] at hh ⊢ <;> exact hh
theorem ext_get {ops : Array Oper} {k i : Nat} (hk : k ≤ ops.size) (hi : i < k) : (ops.extract 0 k)[i]? = ops[i]? := by
  rw [Array.getElem?_extract]
  simp only [Nat.sub_zero, Nat.zero_add]
  rw [if_pos (by omega)]
theorem any_prefix {P : Program} {ops : Array Oper} {k : Nat} (hk : k ≤ ops.size) (hfl : flowB ops = true) (hcut : cutAt ops k = true) {Q : Exit → Act → World → Prop} {K : Act → World → Prop}
    (hn : ∀ a w, K a w → ∀ listed : Array Bool, listed.size = ops.size → (∀ i, listed.getD i false = true ↔ i < k) → wpAny P .any ops Q (ops.size - k) listed a w) :
    ∀ (fuel : Nat) (la listed : Array Bool) (a : Act) (w : World), la.size = k → listed.size = ops.size → (∀ i, listed.getD i false = true ↔ la.getD i false = true) → (∀ i j, Waits ops i j → listed.getD i false = true → listed.getD j false = true) → cnt la + fuel = k →
      wpAny P .any (ops.extract 0 k) (QK Q K) fuel la a w → wpAny P .any ops Q (fuel + (ops.size - k)) listed a w := by
  have flow := flow_of hfl
  have esz : (ops.extract 0 k).size = k := by rw [Array.size_extract]; omega
  have onlt : ∀ i o, ops[i]? = some o → ∀ e ∈ o.after, Region.binds .any e = true → e.on < i := fun i o ho e he hb => by
    have h1 := flow i o ho
    simp only [flowAt, Bool.and_eq_true] at h1
    have h2 := Array.all_eq_true'.1 h1.1.1 e he
    simp only [hb, Bool.not_true, Bool.false_or] at h2
    exact blt_true h2
  intro fuel
  induction fuel with
  | zero =>
    intro la listed a w hla hls hle hcl hcnt hw
    have hall := cnt_full (listed := la) (by rw [hla]; omega)
    rw [Nat.zero_add]
    refine hn a w hw.2 listed hls fun i => ?_
    rw [hle]
    refine ⟨fun h => ?_, fun h => hall i (by omega)⟩
    rcases Nat.lt_or_ge i la.size with h1 | h1
    · omega
    · simp [Array.getElem?_eq_none h1] at h
  | succ fuel ih =>
    intro la listed a w hla hls hle hcl hcnt hw
    rw [show fuel + 1 + (ops.size - k) = (fuel + (ops.size - k)) + 1 by omega]
    have lan : ∀ i, k ≤ i → listed.getD i false = false := fun i hi => by
      cases hl : listed.getD i false with
      | false => rfl
      | true =>
        have := (hle i).1 hl
        simp [Array.getElem?_eq_none (show la.size ≤ i by omega)] at this
    -- one is not listed yet
    have ex : ∃ i, i < k ∧ la.getD i false = false := by
      apply Classical.byContradiction
      intro h
      have hall : ∀ i, i < la.size → la.getD i false = true := fun i hi => by
        cases hl : la.getD i false with
        | true => rfl
        | false => exact absurd ⟨i, by omega, hl⟩ h
      have : cnt la = la.size := by
        unfold cnt
        rw [← Array.length_toList]
        refine List.countP_eq_length.2 fun x hx => ?_
        obtain ⟨i, hi, rfl⟩ := List.getElem_of_mem hx
        have := hall i (by simpa using hi)
        simp only [Array.length_toList] at hi
        simp [hi] at this
        simpa using this
      omega
    have rdy : ∀ i, i ∈ Region.ready .any ops listed → i < k ∧ i ∈ Region.ready .any (ops.extract 0 k) la := fun i hi => by
      obtain ⟨h1, o, ho, h2⟩ := mem_ready.1 hi
      have hilt := (Array.getElem?_eq_some_iff.1 ho).1
      have hik : i < k := by
        apply Classical.byContradiction
        intro hge
        obtain ⟨j, hj, hj2⟩ := ex
        have hr := before_reach ops i j hilt (cutAt_spec hcut hilt (by omega) hj)
        have := closed_reach hcl hr fun q ⟨o', ho', e, he, hb, hon⟩ => by
          rw [ho] at ho'; cases ho'
          rw [← hon]; exact h2 e he hb
        rw [hle, hj2] at this
        cases this
      refine ⟨hik, mem_ready.2 ⟨?_, o, by rw [ext_get hk hik]; exact ho, fun e he hb => (hle _).1 (h2 e he hb)⟩⟩
      have h3 : listed.getD i false = false := by simp [hls, hilt] at h1 ⊢; exact h1
      have h4 : la.getD i false = false := by
        cases hl : la.getD i false with
        | false => rfl
        | true => rw [(hle i).2 hl] at h3; cases h3
      simp [hla, hik] at h4 ⊢; exact h4
    have ne : Region.ready .any ops listed ≠ [] := by
      obtain ⟨j, hj, hj2⟩ := ex
      have key : ∀ i, i < k → la.getD i false = false → ∃ q, q ∈ Region.ready .any ops listed := by
        intro i
        induction i using Nat.strongRecOn with
        | _ i ihi =>
          intro hi hil
          by_cases hx : ∃ e ∈ (ops[i]'(by omega)).after, Region.binds .any e = true ∧ listed.getD e.on false = false
          · obtain ⟨e, he, hb, hl⟩ := hx
            have h1 := onlt i _ (by simp) e he hb
            refine ihi e.on h1 (by omega) ?_
            cases hq : la.getD e.on false with
            | false => rfl
            | true => rw [(hle _).2 hq] at hl; cases hl
          · refine ⟨i, mem_ready.2 ⟨?_, ops[i]'(by omega), by simp, fun e he hb => ?_⟩⟩
            · have : listed.getD i false = false := by
                cases hq : listed.getD i false with
                | false => rfl
                | true => rw [(hle i).1 hq] at hil; cases hil
              simp [hls, show i < ops.size by omega] at this ⊢; exact this
            · cases hq : listed.getD e.on false with
              | true => rfl
              | false => exact absurd ⟨e, he, hb, hq⟩ hx
      obtain ⟨q, hq⟩ := key j hj hj2
      intro h; rw [h] at hq; cases hq
    refine ⟨fun h => absurd h ne, fun i hi => ?_⟩
    obtain ⟨hik, hiA⟩ := rdy i hi
    obtain ⟨hun, o, ho, hall⟩ := mem_ready.1 hi
    have hilt := (Array.getElem?_eq_some_iff.1 ho).1
    have hunA : la.getD i false = false := by
      cases hl : la.getD i false with
      | false => rfl
      | true =>
        have := (hle i).2 hl
        simp [hls, hilt] at hun this
        rw [hun] at this; cases this
    have hop := hw.2 i hiA
    have next : ∀ a' w', wpAny P .any (ops.extract 0 k) (QK Q K) fuel (la.setIfInBounds i true) a' w' → wpAny P .any ops Q (fuel + (ops.size - k)) (listed.setIfInBounds i true) a' w' := fun a' w' h =>
      ih (la.setIfInBounds i true) (listed.setIfInBounds i true) a' w' (by simp [hla]) (by simp [hls])
        (fun j => by rw [set_iff (by omega) j, set_iff (by omega) j, hle j])
        (fun p q hpq hp => by
          rw [set_iff (by omega)] at hp ⊢
          rcases hp with rfl | hp
          · right
            obtain ⟨o', ho', e, he, hb, hon⟩ := hpq
            rw [ho] at ho'; cases ho'
            rw [← hon]; exact hall e he hb
          · exact .inr (hcl p q hpq hp))
        (by rw [cnt_set (by omega) hunA]; omega) h
    have hA : (ops.extract 0 k)[i]? = some o := by rw [ext_get hk hik]; exact ho
    unfold wpOp at hop ⊢
    rw [hA] at hop
    rw [ho]
    simp only at hop ⊢
    have hwant : Region.wanted o (yielded (ops.extract 0 k) a.tmps) = Region.wanted o (yielded ops a.tmps) := by
      unfold Region.wanted
      cases hg : o.guard with
      | none => rfl
      | some p =>
        obtain ⟨j, want⟩ := p
        have h1 := flow i o ho
        simp only [flowAt, Bool.and_eq_true, hg] at h1
        obtain ⟨e, he, h2⟩ := Array.any_eq_true'.1 h1.1.2
        simp only [Bool.and_eq_true] at h2
        have h3 := onlt i o ho e he h2.1
        rw [Nat.eq_of_beq_eq_true h2.2] at h3
        simp only [yielded, ext_get hk (show j < k by omega)]
    rw [hwant] at hop
    split
    · rename_i hw'
      rw [if_pos hw'] at hop
      exact hop.imp (wp_qk next) (fun h => h)
    · rename_i hw'
      rw [if_neg hw'] at hop
      exact next _ _ hop
theorem any_suffix {P : Program} {F : Fr} [GF P F] {nt k : Nat} {ops : Array Oper} {H : List Ob} {bs : List Bool} {rq : List Req} {E : Nat → List (Nat × D)} {V : Nat → D} (hfl : flowB ops = true) (hk : k ≤ ops.size)
    (hT : Trace P nt ops H bs rq k ops.size E V) (hb : ∀ b ∈ bs, b = true) (hq : ∀ q ∈ rq, q.ok P) (hV : ∀ i t, i < k → (ops[i]?).bind (·.dst) = some t → V i = find (E k) t)
    {Q : Exit → Act → World → Prop} (orc : List Res) (hQ : ∀ a c, RInv F nt ops ops.size ⟨E ops.size, H, orc⟩ a c → Q .normal a c.w) :
    ∀ (fuel : Nat) (listed : Array Bool) (a : Act) (c : Ctx), (∀ i, i < k → listed.getD i false = true) → DInv F nt ops H V (E k) listed a c → cnt listed + fuel = ops.size → wpAny P .any ops Q fuel listed a c.w := by
  have hnd : dstsB ops = true := by simp only [flowB, Bool.and_eq_true] at hfl; exact hfl.1
  have flow := flow_of hfl
  have base : ∀ t, find (E k) t = valL ops V (E k) (· < k) t := fun t => by
    by_cases hx : ∃ i, (ops[i]?).bind (·.dst) = some t ∧ i < k
    · obtain ⟨i, h1, h2⟩ := hx
      rw [valL_some hnd h1 h2, hV i t h2 h1]
    · rw [valL_none fun i h1 h2 => hx ⟨i, h1, h2⟩]
  have val : ∀ m, k ≤ m → m ≤ ops.size → ∀ t, find (E m) t = valL ops V (E k) (· < m) t := fun m h1 h2 t => by
    have := env_from hnd (E := E) (V := V) (env0 := E k) (nt := nt) (k0 := k) (n := ops.size) base (fun i h1 h2 => hT.put i h1 h2) (m - k) (by omega) t
    rwa [show k + (m - k) = m by omega] at this
  have fin : ∀ (listed : Array Bool) a c, DInv F nt ops H V (E k) listed a c → (∀ i, i < ops.size → listed.getD i false = true) → Q .normal a c.w := fun listed a c hD hall => by
    have hval : ∀ t, find (E ops.size) t = valL ops V (E k) (fun i => listed.getD i false = true) t := fun t => by
      rw [val ops.size hk (Nat.le_refl _) t]
      refine valL_congr hnd fun i hi => ⟨fun h => hall i h, fun _ => ?_⟩
      obtain ⟨o, ho, _⟩ := Option.bind_eq_some_iff.1 hi
      exact (Array.getElem?_eq_some_iff.1 ho).1
    refine hQ a c ⟨hD.H, hD.inv, fun t => ?_, hD.size, hD.defers, fun t j w d hf => ?_⟩
    · show GV _ _ _ (find (E ops.size) t)
      rw [hval]; exact hD.env t
    · have hf : find (E ops.size) t = .opt j w d := hf
      rw [hval] at hf
      have := hD.opt t j w d hf
      rcases Nat.lt_or_ge j listed.size with h | h
      · rw [hD.lsize] at h; exact h
      · simp [Array.getElem?_eq_none h] at this
  have stuckAll : ∀ (listed : Array Bool), listed.size = ops.size → Region.ready .any ops listed = [] → ∀ i, i < ops.size → listed.getD i false = true := by
    intro listed hls hr i
    induction i using Nat.strongRecOn with
    | _ i ih =>
      intro hi
      cases hl : listed.getD i false with
      | true => rfl
      | false =>
        exfalso
        have : i ∈ Region.ready .any ops listed := by
          rw [mem_ready]
          refine ⟨by simp [hls, hi] at hl ⊢; exact hl, ops[i], by simp [hi], fun e he hbi => ?_⟩
          have h1 := flow i ops[i] (by simp [hi])
          simp only [flowAt, Bool.and_eq_true] at h1
          have h2 := Array.all_eq_true'.1 h1.1.1 e he
          simp only [hbi, Bool.not_true, Bool.false_or] at h2
          have h3 := blt_true h2
          exact ih e.on h3 (by omega)
        rw [hr] at this
        cases this
  intro fuel
  induction fuel with
  | zero =>
    intro listed a c hpre hD hcnt
    have hls := hD.lsize
    have hall : ∀ i, i < ops.size → listed.getD i false = true := by
      have := cnt_full (listed := listed) (by rw [hls]; omega)
      rw [hls] at this
      exact this
    refine ⟨?_, fin listed a c hD hall⟩
    cases hr : Region.ready .any ops listed with
    | nil => rfl
    | cons i r =>
      exfalso
      have : i ∈ Region.ready .any ops listed := by rw [hr]; exact List.mem_cons_self
      obtain ⟨h1, o, ho, _⟩ := mem_ready.1 this
      have hi := (Array.getElem?_eq_some_iff.1 ho).1
      have h2 := hall i hi
      simp [hls, hi] at h1 h2
      rw [h1] at h2
      cases h2
  | succ fuel ih =>
    intro listed a c hpre hD hcnt
    have hls := hD.lsize
    refine ⟨fun hr => fin listed a c hD (stuckAll listed hls hr), fun i hi => ?_⟩
    obtain ⟨hun, o, ho, hall⟩ := mem_ready.1 hi
    have hilt := (Array.getElem?_eq_some_iff.1 ho).1
    have hunf : listed.getD i false = false := by simp [hls, hilt] at hun ⊢; exact hun
    have hki : k ≤ i := by
      rcases Nat.lt_or_ge i k with h | h
      · rw [hpre i h] at hunf; cases hunf
      · exact h
    have hcn : cnt (listed.setIfInBounds i true) + fuel = ops.size := by
      rw [cnt_set (by rw [hls]; exact hilt) hunf]; omega
    obtain ⟨o', orc0, b, r, orc1, ho', hstep, hbb, hrr⟩ := hT.step i hki hilt
    rw [ho] at ho'
    cases ho'
    refine dstep hfl hD ho hunf hall (val i hki (by omega)) hstep (fun x hx => hb x (hbb x hx)) (fun q hq' => hq q (hrr q hq')) (fun t ht => ?_) fun a' c' hD' => ih _ _ c' (fun j hj => ?_) hD' hcn
    · obtain ⟨o2, ho2, h3⟩ := hT.put i hki hilt
      rw [ho] at ho2
      cases ho2
      rw [ht] at h3
      simp only [putE] at h3
      cases hlt : Nat.blt t nt with
      | false => simp [hlt] at h3
      | true => exact blt_true hlt
    · rw [getD_set_ne false (by omega)]; exact hpre j hj
theorem any_regionA {P : Program} {Q : Exit → St → Prop} {s : St} {ops : Array Oper} (ws : List Nat) (orc : List Res) (keep : List Nat) (hn : Nat) {s' : St} {bs : List Bool} {rq : List Req}
    (h : regA P ops ws orc keep hn s = some (s', bs, rq)) (hb : ∀ b ∈ bs, b = true) (hq : ∀ q ∈ rq, q.ok P) {F : Fr} {a : Act} {w : World} (hG : GF P F) (hR : Rel F s a w) {K : Act → World → Prop} {Q' : Exit → Act → World → Prop} (hK : ∀ a w, Rel F s' a w → K a w) :
    P.follows .mixedOrders = true ∧ wpAny P .any ops (QK Q' K) ops.size (Array.replicate ops.size false) a w.drew := by
  obtain ⟨c, rfl, hH, hI, henv, hsz, hd⟩ := hR
  unfold regA at h
  cases hc : (flowB ops && P.follows .mixedOrders && cordB ops ws && s.H.all (cleanO s.H.length) && s.env.all (fun p => !mt s.H.length p.2) && ws.all (fun w => Nat.ble w (lastW ws))) with
  | false => rw [hc] at h; cases h
  | true =>
    rw [hc] at h
    simp only [cond_true] at h
    simp only [Bool.and_eq_true] at hc
    obtain ⟨⟨⟨⟨⟨hc1, hc2⟩, hc3⟩, hc4⟩, hc5⟩, hc6⟩ := hc
    refine ⟨hc2, ?_⟩
    split at h <;> try cases h
    rename_i env' H' t d bs0 rq0 orc0 hrun
    obtain ⟨s1, hcut, heq⟩ := Option.map_eq_some_iff.1 h
    simp only [Prod.mk.injEq] at heq
    obtain ⟨rfl, rfl, rfl⟩ := heq
    obtain ⟨E, HH, CH, V, hE0, hH0, hC0, hE1, hH1, hC1, hT⟩ := traceA_of ops.toList 0 s.env env' s.H H' none (some (t, d)) orc orc0 bs0 rq0 (fun j => .inl (by simp)) hrun
    simp only [Array.length_toList, Nat.zero_add] at hE1 hH1 hC1 hT
    let c' : Ctx := { c with w := c.w.drew }
    have hgo : Goes c c' := ⟨rfl, rfl, fun _ h => h, fun _ _ => rfl, fun b hb => (hI.imm b hb).1, fun id b hb => (hI.loc id b hb).2.1⟩
    have hI' : Inv F c' := hI.goes hgo (Bw.refl _ _).drew (fun _ h => .inl h)
    have hnone : ∀ i, ¬ (Array.replicate ops.size false).getD i false = true := fun i h => by rw [getD_rep_false] at h; cases h
    have hval : ∀ t, valL ops V (E 0) (fun i => (Array.replicate ops.size false).getD i false = true) t = find s.env t := fun t => by rw [valL_none (fun i _ => hnone i), hE0]
    have hD : AInv F s.nt ops ws HH CH V (E 0) (Array.replicate ops.size false) a c' := by
      refine ⟨⟨0, Nat.zero_le _, hH.trans hH0.symm, fun w _ h => by omega, fun w _ _ => by rw [getD_rep_false], fun t0 d0 h => by rw [hC0] at h; cases h⟩, hI', fun t => ?_, hsz, hd, fun t j w d hf => ?_, by simp, fun i j _ h => absurd h (hnone i)⟩
      · rw [hval]; exact gv_of_tv (hgo.tv (henv t))
      · rw [hval] at hf
        have := henv t
        rw [hf] at this
        simp only [TV, AV] at this
        exact absurd this cv_not_opt
    refine drawA_sound (H0 := s.H) hc1 hc3 hc4 (fun w hw => Nat.le_of_ble_eq_true (List.all_eq_true.1 hc6 w hw)) (by rw [hE0]; exact find_clean hc5) hT hH0 hC0 hb hq [] hC1 (fun a' c'' hR => ?_) ops.size _ a c' hD (by simp [cnt, List.countP_replicate])
    have hR' := rinv_fin hR keep
    simp only [hE1, hH1] at hR'
    exact hK _ _ (le_cut hcut F a' c''.w hR')
theorem countP_pre : ∀ (l : List Bool) (m : Nat), m ≤ l.length → (∀ i, i < l.length → (l.getD i false = true ↔ i < m)) → l.countP id = m := by
  intro l
  induction l with
  | nil => intro m hm _; simp at hm; simp [hm]
  | cons x l ihl =>
    intro m hm hx
    cases m with
    | zero =>
      have : x = false := by
        have := hx 0 (by simp)
        simpa using this
      rw [this, List.countP_cons_of_neg (by simp)]
      exact ihl 0 (Nat.zero_le _) fun i hi => by
        have := hx (i + 1) (by simpa using hi)
        simpa using this
    | succ m =>
      have : x = true := by
        have := hx 0 (by simp)
        simpa using this
      rw [this, List.countP_cons_of_pos (by simp)]
      rw [ihl m (by simpa using hm) fun i hi => by
        have := hx (i + 1) (by simpa using hi)
        simpa using this]
def regZ (P : Program) (ops : Array Oper) (k : Nat) (orc : List Res) (keep : List Nat) (hn : Nat) (s : St) : Option (St × List Bool × List Req) :=
  bif flowB ops && cutAt ops k && Nat.ble k ops.size then
    match runDr P s.nt ops s.H k (ops.toList.drop k) s.env orc with
    | some (e3, bs, rq, _) => (cutS hn ⟨s.nt, fin e3 keep, s.H⟩).map fun s' => (s', bs, rq)
    | none => none
  else none
theorem awp_regionY {P : Program} {Q : Exit → St → Prop} {s s1 s2 s' : St} {id : Nat} {ops : Array Oper} (k : Nat) (ws : List Nat) (orcA : List Res) (keepA : List Nat) (hnA : Nat) {bsA : List Bool} {rqA : List Req}
    (hA : regA P (ops.extract 0 k) ws orcA keepA hnA s = some (s1, bsA, rqA)) (hbA : ∀ b ∈ bsA, b = true) (hqA : ∀ q ∈ rqA, q.ok P) (hle : Le s1 s2)
    (orcB : List Res) (keep : List Nat) (hn : Nat) {bsB : List Bool} {rqB : List Req} (hB : regZ P ops k orcB keep hn s2 = some (s', bsB, rqB)) (hbB : ∀ b ∈ bsB, b = true) (hqB : ∀ q ∈ rqB, q.ok P) (hQ : Q .normal s') : AWP P (.region id ops true) Q s := by
  intro F a w hG hR
  unfold regZ at hB
  cases hc : (flowB ops && cutAt ops k && Nat.ble k ops.size) with
  | false => rw [hc] at hB; cases hB
  | true =>
    rw [hc] at hB
    simp only [cond_true] at hB
    simp only [Bool.and_eq_true] at hc
    obtain ⟨⟨hfl, hct⟩, hk⟩ := hc
    have hk := Nat.le_of_ble_eq_true hk
    have hnd : dstsB ops = true := by simp only [flowB, Bool.and_eq_true] at hfl; exact hfl.1
    split at hB <;> try cases hB
    rename_i e3 bs3 rq3 orc3 hrun
    obtain ⟨s3, hcut, heq⟩ := Option.map_eq_some_iff.1 hB
    simp only [Prod.mk.injEq] at heq
    obtain ⟨rfl, rfl, rfl⟩ := heq
    obtain ⟨E, V, hE, hE', hT⟩ := trace_of (ops.toList.drop k) k s2.env e3 orcB orc3 bs3 rq3 (fun j => .inl (by rw [List.getElem?_drop]; simp)) hrun
    have l2 : k + (ops.toList.drop k).length = ops.size := by rw [List.length_drop, Array.length_toList]; omega
    rw [l2] at hE' hT
    obtain ⟨hmo, hany⟩ := any_regionA ws orcA keepA hnA hA hbA hqA (Q := Q) (Q' := fun e a' w' => ∃ s', Q e s' ∧ Rel F s' a' w') hG hR (K := fun a w => Rel F s2 a w) (fun a w h => hle F a w h)
    have esz : (ops.extract 0 k).size = k := by rw [Array.size_extract]; omega
    rw [esz] at hany
    refine wp_region_any hmo ?_
    have hfin := any_prefix (P := P) (Q := fun e a' w' => ∃ s', Q e s' ∧ Rel F s' a' w') (K := fun a w => Rel F s2 a w) hk hfl hct (fun a w hR2 listed hls hl => by
      obtain ⟨c, rfl, hH, hI, henv, hsz, hd⟩ := hR2
      let V' : Nat → D := fun i => if i < k then (match (ops[i]?).bind (·.dst) with | some t => find (E k) t | none => .any) else V i
      have hT' : Trace P s2.nt ops s2.H bs3 rq3 k ops.size E V' := ⟨fun i h1 h2 => by
          have : V' i = V i := if_neg (by omega)
          rw [this]; exact hT.step i h1 h2, fun i h1 h2 => by
          have : V' i = V i := if_neg (by omega)
          rw [this]; exact hT.put i h1 h2⟩
      have hV' : ∀ i t, i < k → (ops[i]?).bind (·.dst) = some t → V' i = find (E k) t := fun i t hi ht => by
        show (if i < k then _ else _) = _
        rw [if_pos hi, ht]
      have hval : ∀ t, valL ops V' (E k) (fun i => listed.getD i false = true) t = find s2.env t := fun t => by
        rw [← hE]
        by_cases hx : ∃ i, (ops[i]?).bind (·.dst) = some t ∧ listed.getD i false = true
        · obtain ⟨i, h1, h2⟩ := hx
          rw [valL_some hnd h1 h2, hV' i t ((hl i).1 h2) h1]
        · rw [valL_none fun i h1 h2 => hx ⟨i, h1, h2⟩]
      have hD : DInv F s2.nt ops s2.H V' (E k) listed a c := by
        refine ⟨hH, hI, fun t => ?_, hsz, hd, fun t j w d hf => ?_, hls, fun i j hij h => ?_⟩
        · rw [hval]; exact gv_of_tv (henv t)
        · rw [hval] at hf
          have := henv t
          rw [hf] at this
          simp only [TV, AV] at this
          exact absurd this cv_not_opt
        · obtain ⟨o, ho, e, he, hb, hon⟩ := hij
          have h1 := flow_of hfl i o ho
          simp only [flowAt, Bool.and_eq_true] at h1
          have h2 := Array.all_eq_true'.1 h1.1.1 e he
          simp only [hb, Bool.not_true, Bool.false_or] at h2
          have h3 := blt_true h2
          rw [hl] at h ⊢
          omega
      have hcnt : cnt listed = k := by
        unfold cnt
        refine countP_pre listed.toList k (by rw [Array.length_toList]; omega) fun i hi => ?_
        rw [← hl i]
        simp
      exact any_suffix hfl hk hT' hbB hqB hV' [] (fun a' c'' hR' => ⟨_, hQ, by
        have h5 := rinv_fin hR' keep
        simp only [hE'] at h5
        exact le_cut hcut F a' c''.w h5⟩) (ops.size - k) listed a c (fun i hi => (hl i).2 hi) hD (by omega))
      k (Array.replicate k false) (Array.replicate ops.size false) a w.drew (by simp) (by simp) (fun i => by rw [getD_rep_false, getD_rep_false]) (fun i j _ h => by rw [getD_rep_false] at h; cases h) (by simp [cnt, List.countP_replicate]) hany
    rw [show k + (ops.size - k) = ops.size by omega] at hfin
    exact hfin
theorem rgy {P : Program} {Q : Exit → St → Prop} {s : St} {id : Nat} {ops : Array Oper} (k : Nat) (ws : List Nat) (orcA : List Res) (keepA : List Nat) (hnA : Nat) (s1 : St) (bsA : List Bool) (rqA : List Req) (hbA : ∀ b ∈ bsA, b = true) (hqA : Reqs P rqA) (s2 : St) (hle : Le s1 s2)
    (orcB : List Res) (keep : List Nat) (hn : Nat) (s' : St) (bsB : List Bool) (rqB : List Req) (hbB : ∀ b ∈ bsB, b = true) (hqB : Reqs P rqB) (hQ : Q .normal s')
    (hA : regA P (ops.extract 0 k) ws orcA keepA hnA s = some (s1, bsA, rqA) := by kernel_rfl) (hB : regZ P ops k orcB keep hn s2 = some (s', bsB, rqB) := by kernel_rfl) : AWP P (.region id ops true) Q s :=
  awp_regionY k ws orcA keepA hnA hA hbA hqA.all hle orcB keep hn hB hbB hqB.all hQ
end Nv
