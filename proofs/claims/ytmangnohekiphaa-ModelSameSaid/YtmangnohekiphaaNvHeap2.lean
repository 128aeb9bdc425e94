/- Operations that make or write an object: new variables, stores, make. -/
import Derived.Test.YtmangnohekiphaaNvHeap
namespace Nv
open Go Go.RowKit

/-! values that name an object whose slice moves away are forgotten -/
def mc (id : Nat) : D → Bool
  | .asl i _ _ | .eref i _ _ | .ref i _ => Nat.beq i id
  | _ => false
def ma (id : Nat) : D → Bool
  | .agg cs => cs.any (mc id)
  | .fn _ cap => cap.any (mc id)
  | d => mc id d
def mt (id : Nat) : D → Bool
  | .tup ds => ds.any (ma id)
  | .opt _ _ _ => true
  | d => ma id d
def purge (pid : Option Nat) (d : D) : D :=
  match pid with
  | none => d
  | some id => bif mt id d then .any else d

/-- What an operation that makes or writes an object leaves. -/
def Turns (P : Program) (F : Fr) (c : Ctx) (s : Sem Next) (d : D) (H' : List Ob) (pid : Option Nat) : Prop :=
  ∃ v c', (s.run P c.w = .ok (.value v) c'.w ∨ (s.run P c.w = .ok .skip c'.w ∧ v = undef)) ∧ Inv F c' ∧ c'.H = H' ∧ (∀ u e, TV c u e → TV c' u (purge pid e)) ∧ TV c' v d

/-! a new variable -/
def allocD (P : Program) (H : List Ob) (t : TypeId) : Option (D × List Ob) :=
  match zeroD P t with
  | some cs => some (.ref H.length 0, H ++ [.box cs])
  | none => none
def boxD (H : List Ob) (x : D) : Option (D × List Ob) :=
  match cellsOfD x with
  | some cs => some (.ref H.length 0, H ++ [.box cs])
  | none => none

theorem newbox {P : Program} {F : Fr} {c : Ctx} (hI : Inv F c) {t : TypeId} {z : Value} {cs : List D} (hz : Vs (CV c) z.cells cs) {s : Sem Next}
    (hs : s.run P c.w = .ok (.value (.pointer (some ⟨c.w.heap.size, 0, none⟩))) (c.w.alloc (.cells z.cells t))) : Turns P F c s (.ref c.H.length 0) (c.H ++ [.box cs]) none := by
  have hm := more_alloc c.w z.cells t
  refine ⟨_, c.made _ (.box cs), .inl hs, made_inv hI hm _ ⟨_, _, _, rfl, hm.new, hz.mono fun _ _ => made_cv hI hm _⟩, rfl, fun u e h => made_tv hI hm _ h, ?_⟩
  simp only [TV, AV, CV]
  exact ⟨c.w.heap.size, by simp [Ctx.made], rfl⟩

theorem allocD_ok {P : Program} {F : Fr} {c : Ctx} (hI : Inv F c) {t : TypeId} {d : D} {H' : List Ob} (h : allocD P c.H t = some (d, H')) :
    Turns P F c (do pure (.value (← Instr.alloc t true (.tuple #[])))) d H' none := by
  unfold allocD at h
  split at h <;> try cases h
  rename_i cs hz
  obtain ⟨z, hz1, hz2⟩ := zeroD_ok hz c
  exact newbox (t := t) hI hz2 (by simp [Instr.alloc, hz1, newVar, newRow])
theorem boxD_ok {P : Program} {F : Fr} {c : Ctx} (hI : Inv F c) {t : TypeId} {x d : D} {H' : List Ob} (h : boxD c.H x = some (d, H')) {v : Value} (hv : TV c v x) :
    Turns P F c (do pure (.value (← Instr.box t v))) d H' none := by
  unfold boxD at h
  split at h <;> try cases h
  rename_i cs hx
  exact newbox (t := t) hI (cellsOfD_ok hx hv) (by simp [Instr.box, newVar, newRow])

/-! a store -/
def splice (cells cs : List D) (off : Nat) : List D := cells.take off ++ (cs ++ cells.drop (off + cs.length))

def storeD (P : Program) (H : List Ob) (t : TypeId) (a x : D) : Option (List Ob) :=
  match szO P t, cellsOfD x with
  | some k, some cs =>
    bif Nat.beq cs.length k && cs.all cellB then
      match a with
      | .ref id off => match H[id]? with
        | some (.box cells) => bif Nat.ble (off + k) cells.length then some (H.set id (.box (splice cells cs off))) else none
        | _ => none
      | .eref id i off => match H[id]? with
        | some (.arr wd n f) => bif Nat.ble (off + k) wd && cs.all persB then some (H.set id (.arr wd n fun j => bif Nat.beq j i then splice (f i) cs off else f j)) else none
        | _ => none
      | _ => none
    else none
  | _, _ => none

theorem splice_len {cells cs : List D} {off : Nat} (h : off + cs.length ≤ cells.length) : (splice cells cs off).length = cells.length := by
  simp [splice]; omega
/-- The cells behind a store. -/
def splV (old : Array Value) (vs : List Value) (off : Nat) : Array Value := (old.toList.take off ++ vs ++ old.toList.drop (off + vs.length)).toArray
theorem splV_size {old : Array Value} {vs : List Value} {off : Nat} (h : off + vs.length ≤ old.size) : (splV old vs off).size = old.size := by
  simp [splV]; omega
theorem splV_get {old : Array Value} {vs : List Value} {off : Nat} (h : off + vs.length ≤ old.size) (i : Nat) :
    (splV old vs off)[i]? = if off ≤ i ∧ i < off + vs.length then vs[i - off]? else old[i]? := by
  simp only [splV, List.getElem?_toArray]
  have hl : (old.toList.take off).length = off := by simp; omega
  by_cases h1 : i < off
  · rw [if_neg (by omega), List.append_assoc, List.getElem?_append_left (by omega), List.getElem?_take_of_lt h1]
    simp
  · by_cases h2 : i < off + vs.length
    · rw [if_pos (by omega), List.append_assoc, List.getElem?_append_right (by omega), hl, List.getElem?_append_left (by omega)]
    · rw [if_neg (by omega), List.getElem?_append_right (by simp; omega)]
      simp only [List.length_append, hl, List.getElem?_drop]
      rw [show off + vs.length + (i - (off + vs.length)) = i by omega]
      simp
theorem splice_get {cells cs : List D} {off : Nat} (h : off + cs.length ≤ cells.length) (i : Nat) :
    (splice cells cs off)[i]? = if off ≤ i ∧ i < off + cs.length then cs[i - off]? else cells[i]? := by
  unfold splice
  have hl : (cells.take off).length = off := by simp; omega
  by_cases h1 : i < off
  · rw [if_neg (by omega), List.getElem?_append_left (by omega), List.getElem?_take_of_lt h1]
  · by_cases h2 : i < off + cs.length
    · rw [if_pos (by omega), List.getElem?_append_right (by omega), hl, List.getElem?_append_left (by omega)]
    · rw [if_neg (by omega), List.getElem?_append_right (by omega), hl, List.getElem?_append_right (by omega), List.getElem?_drop]
      congr 1
      omega

theorem storeD_ok {P : Program} {F : Fr} {c : Ctx} (hI : Inv F c) {t : TypeId} {a x : D} {H' : List Ob} (h : storeD P c.H t a x = some H') {va vx : Value} (ha : TV c va a) (hx : TV c vx x) :
    Turns P F c (do Instr.storeAt t va vx; pure .skip) .any H' none := by
  unfold storeD at h
  split at h <;> try cases h
  rename_i k cs hk hcs
  cases hc : (Nat.beq cs.length k && cs.all cellB) with
  | false => rw [hc] at h; cases h
  | true =>
    simp only [hc, cond_true] at h
    simp only [Bool.and_eq_true, List.all_eq_true] at hc
    obtain ⟨hck0, hcell⟩ := hc
    obtain rfl := Nat.eq_of_beq_eq_true hck0
    have hu := cellsOfD_ok hcs hx
    have hsz : vx.cells.size = cs.length := hu.1
    have hone : ∀ v ∈ vx.cells.toList, v.oneCell' = true := by
      intro v hv
      obtain ⟨i, hi, rfl⟩ := List.getElem_of_mem hv
      have hi' : i < cs.length := by simpa [hsz] using hi
      exact cv_one (hcell _ (List.getElem_mem hi')) (hu.2 i _ _ (by simp at hi; simp [hi]) (by simp [hi']))
    split at h
    · rename_i id off
      split at h <;> try cases h
      rename_i cells ho
      cases hb : Nat.ble (off + cs.length) cells.length with
      | false => simp [hb] at h
      | true =>
        simp only [hb, cond_true, Option.some.injEq] at h
        subst h
        have hle := Nat.le_of_ble_eq_true hb
        simp only [TV, AV, CV] at ha
        obtain ⟨b, hmu, rfl⟩ := ha
        obtain ⟨b', old, T, hb', hh, hvs⟩ := hI.obj id _ ho
        rw [hmu] at hb'
        cases hb'
        have hfit : off + vx.cells.toList.length ≤ old.size := by simp [hsz, hvs.1]; omega
        have hrow := run_storeCells_at (P := P) b off T vx.cells.toList 0 old c.w hh (by simpa using hfit) hone
        have hsame : Ob.same (.box cells) (.box (splice cells cs off)) := trivial
        have hssz := splV_size hfit
        refine ⟨undef, c.put id (.box (splice cells cs off)) b (splV old vx.cells.toList off), .inr ⟨?_, rfl⟩, ?_, rfl, fun u e hu => put_tv hI ho hsame hmu hh hssz hu, tv_any⟩
        · have hck : ¬ vx.cells.size ≠ cs.length := by simp [hsz]
          simp only [Instr.storeAt, Instr.sureAddr, storeVar, Sem.run_bind, Sem.run_pure, Result.andThen_ok, run_sz hk, hrow, Nat.add_zero, if_neg hck]
          rfl
        · refine put_inv hI ho hsame hmu hh hssz ⟨b, _, T, rfl, setRow_heap _ _ _ _ _ _ hh, by rw [hssz, hvs.1, splice_len hle], fun i v d h1 h2 => ?_⟩
          apply put_cv hI ho hsame hmu hh hssz
          rw [splV_get hfit] at h1
          rw [splice_get hle] at h2
          simp only [Array.length_toList, hsz] at h1
          split at h1
          · rename_i hin
            rw [if_pos hin] at h2
            exact hu.2 _ v d (by simpa using h1) h2
          · rename_i hin
            rw [if_neg hin] at h2
            exact hvs.2 i v d h1 h2
    · rename_i id i off
      split at h <;> try cases h
      rename_i wd n f ho
      cases hb : (Nat.ble (off + cs.length) wd && cs.all persB) with
      | false => rw [hb] at h; cases h
      | true =>
        simp only [hb, cond_true, Option.some.injEq] at h
        subst h
        simp only [Bool.and_eq_true, List.all_eq_true] at hb
        obtain ⟨hb1, hpers⟩ := hb
        have hle := Nat.le_of_ble_eq_true hb1
        simp only [TV, AV, CV] at ha
        obtain ⟨b, wd', n', f', hmu, ho', hi, rfl⟩ := ha
        rw [ho] at ho'
        cases ho'
        obtain ⟨hw, hor⟩ := hI.obj id _ ho
        rcases hor with ⟨h0, _⟩ | ⟨b', old, T, hb', hh, hn, hvs⟩
        · rw [hmu] at h0; cases h0
        rw [hmu] at hb'
        cases hb'
        have hbound : i * wd + wd ≤ n * wd := by
          have := Nat.mul_le_mul_right wd hi
          rw [Nat.succ_mul] at this
          exact this
        have hfit : i * wd + off + vx.cells.toList.length ≤ old.size := by simp [hsz]; omega
        have hrow := run_storeCells_at (P := P) b (i * wd + off) T vx.cells.toList 0 old c.w hh (by simpa using hfit) hone
        have hle' : off + cs.length ≤ (f i).length := by rw [hw i hi]; exact hle
        have hsame : Ob.same (.arr wd n f) (.arr wd n fun j => bif Nat.beq j i then splice (f i) cs off else f j) := ⟨rfl, rfl⟩
        have hssz := splV_size hfit
        refine ⟨undef, c.put id _ b (splV old vx.cells.toList (i * wd + off)), .inr ⟨?_, rfl⟩, ?_, rfl, fun u e hu => put_tv hI ho hsame hmu hh hssz hu, tv_any⟩
        · have hck : ¬ vx.cells.size ≠ cs.length := by simp [hsz]
          simp only [Instr.storeAt, Instr.sureAddr, storeVar, Sem.run_bind, Sem.run_pure, Result.andThen_ok, run_sz hk, hrow, Nat.add_zero, if_neg hck]
          rfl
        · refine put_inv hI ho hsame hmu hh hssz ⟨fun j hj => ?_, .inr ⟨b, _, T, rfl, setRow_heap _ _ _ _ _ _ hh, by rw [hssz]; exact hn, fun j hj q d hd => ?_⟩⟩
          · cases hji : Nat.beq j i with
            | true => simp only [hji, cond_true, splice_len hle']; exact hw i hi
            | false => simp only [hji, cond_false]; exact hw j hj
          · have hq : q < wd := by
              have hlt := (List.getElem?_eq_some_iff.1 hd).1
              cases hji : Nat.beq j i with
              | true => simp only [hji, cond_true, splice_len hle', hw i hi] at hlt; exact hlt
              | false => simp only [hji, cond_false, hw j hj] at hlt; exact hlt
            have hjb : j * wd + wd ≤ n * wd := by
              have := Nat.mul_le_mul_right wd hj
              rw [Nat.succ_mul] at this
              exact this
            show ∃ v, (splV old vx.cells.toList (i * wd + off))[j * wd + q]? = some v ∧ v.oneCell' = true ∧ PV c.I (c.w.setRow b _) v d
            rw [splV_get hfit]
            simp only [Array.length_toList, hsz]
            cases hji : Nat.beq j i with
            | true =>
              obtain rfl := Nat.eq_of_beq_eq_true hji
              simp only [hji, cond_true, splice_get hle'] at hd
              by_cases hin : off ≤ q ∧ q < off + cs.length
              · rw [if_pos hin] at hd
                rw [if_pos (by omega)]
                have hlt : q - off < vx.cells.size := by rw [hsz]; omega
                have hcv := hu.2 (q - off) vx.cells[q - off] d (by simp [hlt]) hd
                have hmem : d ∈ cs := List.mem_of_getElem? hd
                refine ⟨vx.cells[q - off], ?_, cv_one (hcell d hmem) hcv, put_pv hI hmu (pers_pv (hpers d hmem) hcv)⟩
                rw [show j * wd + q - (j * wd + off) = q - off by omega]
                simp [hlt]
              · rw [if_neg hin] at hd
                rw [if_neg (by omega)]
                obtain ⟨v, h1, h2, h3⟩ := hvs j hi q d hd
                exact ⟨v, h1, h2, put_pv hI hmu h3⟩
            | false =>
              simp only [hji, cond_false] at hd
              have hne : j ≠ i := Nat.ne_of_beq_eq_false hji
              have hout : ¬ (i * wd + off ≤ j * wd + q ∧ j * wd + q < i * wd + off + cs.length) := by
                rintro ⟨h1, h2⟩
                rcases Nat.lt_or_gt_of_ne hne with h3 | h3
                · have := Nat.mul_le_mul_right wd h3; rw [Nat.succ_mul] at this; omega
                · have := Nat.mul_le_mul_right wd h3; rw [Nat.succ_mul] at this; omega
              rw [if_neg hout]
              obtain ⟨v, h1, h2, h3⟩ := hvs j hj q d hd
              exact ⟨v, h1, h2, put_pv hI hmu h3⟩
    · cases h
end Nv
