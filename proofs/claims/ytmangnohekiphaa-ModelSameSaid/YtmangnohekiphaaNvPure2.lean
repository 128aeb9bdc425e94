/- Pointers, indexes, slices, arithmetic: operations that change nothing, on abstract values. -/
import Derived.Test.YtmangnohekiphaaNvPure
namespace Nv
open Go Go.RowKit

/-- The cells that can be read from a pointer. -/
def cellsAt (H : List Ob) : D → Option (List D)
  | .pp cs => some cs
  | .ref id off => match H[id]? with
    | some (.box cells) => some (cells.drop off)
    | _ => none
  | .eref id i off => match H[id]? with
    | some (.arr _ _ f) => some ((f i).drop off)
    | _ => none
  | _ => none

theorem cellsAt_ok {F : Fr} {c : Ctx} (hI : Inv F c) {d : D} {cs : List D} (h : cellsAt c.H d = some cs) {v : Value} (hv : TV c v d) :
    ∃ (b off : Nat) (g : Nat → Value), v = .pointer (some ⟨b, off, none⟩) ∧ (∀ j, j < cs.length → c.w.cell? ⟨b, off + j, none⟩ = some (g j)) ∧ (∀ (j : Nat) (d : D), cs[j]? = some d → CV c (g j) d) := by
  unfold cellsAt at h
  split at h
  · rename_i cs'
    simp only [Option.some.injEq] at h
    subst h
    simp only [TV, AV, CV] at hv
    cases hv with
    | pp b off cs g hI hc hv => exact ⟨b, off, g, rfl, hc, fun j d hd => cv_pv (hv j d hd)⟩
  · rename_i id off
    split at h
    · rename_i cells ho
      simp only [Option.some.injEq] at h
      subst h
      simp only [TV, AV, CV] at hv
      obtain ⟨b, hb, rfl⟩ := hv
      obtain ⟨b', cs, T, hb', hh, hvs⟩ := hI.obj id _ ho
      rw [hb] at hb'
      cases hb'
      refine ⟨b, off, fun j => cs.getD (off + j) undef, rfl, fun j hj => ?_, fun j d hd => ?_⟩
      · have hlt : off + j < cs.size := by rw [hvs.1]; simp at hj; omega
        simp [World.cell?, hh, hlt]
      · rw [List.getElem?_drop] at hd
        have hlt : off + j < cs.size := by
          rw [hvs.1]
          exact (List.getElem?_eq_some_iff.1 hd).1
        exact hvs.2 (off + j) _ d (by simp [hlt]) hd
    · cases h
  · rename_i id i off
    split at h
    · rename_i wd n f ho
      simp only [Option.some.injEq] at h
      subst h
      simp only [TV, AV, CV] at hv
      obtain ⟨b, wd', n', f', hb, ho', hi, rfl⟩ := hv
      rw [ho] at ho'
      cases ho'
      obtain ⟨hw, hor⟩ := hI.obj id _ ho
      rcases hor with ⟨h0, _⟩ | ⟨b', cs, T, hb', hh, hn, hvs⟩
      · rw [hb] at h0; cases h0
      rw [hb] at hb'
      cases hb'
      have hbound : i * wd + wd ≤ cs.size := by
        have : (i + 1) * wd ≤ n * wd := Nat.mul_le_mul_right _ hi
        rw [Nat.add_mul, Nat.one_mul] at this
        omega
      refine ⟨b, i * wd + off, fun j => cs.getD (i * wd + off + j) undef, rfl, fun j hj => ?_, fun j d hd => ?_⟩
      · have hlt : i * wd + off + j < cs.size := by have := hw i hi; simp [this] at hj; omega
        simp [World.cell?, hh, hlt]
      · rw [List.getElem?_drop] at hd
        obtain ⟨v, h1, _, h2⟩ := hvs i hi (off + j) d hd
        rw [← Nat.add_assoc] at h1
        have h3 : cs.getD (i * wd + off + j) undef = v := by simp [h1]
        show CV c (cs.getD (i * wd + off + j) undef) d
        rw [h3]
        exact cv_pv h2
    · cases h
  · cases h

/-- 'x.f' behind a pointer, and an element of an array behind a pointer: the pointer moved by so many cells. -/
def moveD (o : Nat) : D → Option D
  | .pp cs => some (.pp (cs.drop o))
  | .ref id off => some (.ref id (off + o))
  | .eref id i off => some (.eref id i (off + o))
  | _ => none
theorem moveD_ok {c : Ctx} {d d' : D} {o : Nat} (h : moveD o d = some d') {v : Value} (hv : TV c v d) :
    ∃ b off, v = .pointer (some ⟨b, off, none⟩) ∧ TV c (.pointer (some ⟨b, off + o, none⟩)) d' := by
  unfold moveD at h
  split at h <;> first | (simp only [Option.some.injEq] at h; subst h; simp only [TV, AV, CV] at hv) | cases h
  · cases hv with
    | pp b off cs g hI hc hv =>
      refine ⟨b, off, rfl, ?_⟩
      simp only [TV, AV, CV]
      refine .pp b (off + o) _ (fun j => g (o + j)) hI (fun j hj => ?_) (fun j d hd => ?_)
      · rw [Nat.add_assoc]; exact hc (o + j) (by simp at hj; omega)
      · rw [List.getElem?_drop] at hd; exact hv _ d hd
  · obtain ⟨b, hb, rfl⟩ := hv
    exact ⟨b, _, rfl, by simp only [TV, AV, CV]; exact ⟨b, hb, rfl⟩⟩
  · obtain ⟨b, wd, n, f, hb, ho, hi, rfl⟩ := hv
    exact ⟨b, _, rfl, by simp only [TV, AV, CV]; exact ⟨b, wd, n, f, hb, ho, hi, by rw [Nat.add_assoc]⟩⟩

def fieldOff (P : Program) (s : TypeId) (i : Nat) : Option (Nat × TypeId) :=
  match P.underlying s with
  | some (.struct fs) => match fs[i]? with
    | some f => match szO P f.type with
      | some (_ + 1) => some (f.offset, f.type)
      | _ => none
    | none => none
  | _ => none

theorem fieldAt_ok {P : Program} {c : Ctx} {s : TypeId} {i o : Nat} {ft : TypeId} (ho : fieldOff P s i = some (o, ft)) {d d' : D} (h : moveD o d = some d') {v : Value} (hv : TV c v d) :
    ∃ v', (Instr.fieldAt s v i).run P c.w = .ok v' c.w ∧ TV c v' d' := by
  obtain ⟨b, off, rfl, ht⟩ := moveD_ok h hv
  unfold fieldOff at ho
  split at ho <;> try cases ho
  rename_i fs hu
  split at ho <;> try cases ho
  rename_i f hf
  split at ho <;> try cases ho
  rename_i k hk
  refine ⟨_, ?_, ht⟩
  simp [Instr.fieldAt, run_underlying hu, hf, Instr.sureAddr, fieldPlace, run_sz hk, add_zero_addr]

/-- A field of a struct that is a value. -/
def partD (P : Program) (t : TypeId) (cs : List D) (o : Nat) : Option D :=
  match P.underlying t with
  | some d => bif aggB d then
      (match szO P t with
      | some k => bif Nat.ble (o + k) cs.length then some (.agg ((cs.drop o).take k)) else none
      | none => none)
    else (cs[o]?).map (adj P t)
  | none => none
theorem partD_ok {P : Program} {c : Ctx} {t : TypeId} {cs : List D} {o : Nat} {d : D} (h : partD P t cs o = some d) {vs : Array Value} (hv : Vs (CV c) vs cs) :
    ∃ v, (part t vs o).run P c.w = .ok v c.w ∧ TV c v d := by
  unfold partD at h
  cases hu : P.underlying t with
  | none => simp [hu] at h
  | some de =>
    simp only [hu] at h
    have ha := run_agg hu c.w
    cases hb : aggB de with
    | true =>
      simp only [hb, cond_true] at h
      cases hs : szO P t with
      | none => simp [hs] at h
      | some k =>
        simp only [hs] at h
        cases hk : Nat.ble (o + k) cs.length with
        | false => simp [hk] at h
        | true =>
          simp only [hk, cond_true, Option.some.injEq] at h
          subst h
          have hk' : o + k ≤ cs.length := Nat.le_of_ble_eq_true hk
          refine ⟨.agg (vs.extract o (o + k)), by simp [part, ha, hb, run_sz hs], _, rfl, by simp [hv.1]; omega, fun i v d h1 h2 => ?_⟩
          have hi : i < k := by
            have := (List.getElem?_eq_some_iff.1 h2).1
            simp at this; omega
          rw [List.getElem?_take_of_lt hi, List.getElem?_drop] at h2
          rw [Array.getElem?_extract] at h1
          split at h1
          · exact hv.2 _ v d h1 h2
          · cases h1
    | false =>
      simp only [hb, cond_false] at h
      obtain ⟨d0, h0, rfl⟩ := Option.map_eq_some_iff.1 h
      have hlt : o < vs.size := by rw [hv.1]; exact (List.getElem?_eq_some_iff.1 h0).1
      refine ⟨vs[o], by simp [part, ha, hb, hlt], tv_adj (tv_cv (hv.2 o _ d0 (by simp [hlt]) h0))⟩

def fieldD (P : Program) (s : TypeId) (d : D) (i : Nat) : Option D :=
  match P.underlying s, d with
  | some (.struct fs), .agg cs => match fs[i]? with
    | some f => partD P f.type cs f.offset
    | none => none
  | _, _ => none
theorem fieldD_ok {P : Program} {c : Ctx} {s : TypeId} {i : Nat} {d d' : D} (h : fieldD P s d i = some d') {v : Value} (hv : TV c v d) :
    ∃ v', (Instr.field s v i).run P c.w = .ok v' c.w ∧ TV c v' d' := by
  unfold fieldD at h
  split at h <;> try cases h
  rename_i fs cs hu
  split at h <;> try cases h
  rename_i f hf
  obtain ⟨vs, rfl, hvs⟩ := hv
  obtain ⟨v', h1, h2⟩ := partD_ok h hvs
  exact ⟨v', by simp [Instr.field, run_underlying hu, hf, asAgg, h1], h2⟩

/-- 'x[i]', its address. -/
def idxD (P : Program) (H : List Ob) (t : TypeId) (x i : D) : Option (D × List Bool) :=
  match P.underlying t with
  | some (.slice e) => match szO P e with
    | some sz => match x, i with
      | .sl _ wd n f, .int _ k => bif Nat.beq wd sz then some (.pp (f k.toNat), [decide (0 ≤ k), decide (k < (n : Int))]) else none
      | .asl id off len, .int _ k => match H[id]? with
        | some (.arr wd _ _) => bif Nat.beq wd sz then some (.eref id (off + k.toNat) 0, [decide (0 ≤ k), decide (k < (len : Int))]) else none
        | _ => none
      | _, _ => none
    | none => none
  | some (.array len e) => match szO P e with
    | some sz => match i with
      | .int _ k => (moveD (k.toNat * sz) x).map fun d => (d, [decide (0 ≤ k), decide (k < (len : Int))])
      | _ => none
    | none => none
  | _ => none

theorem all2 {a b : Bool} (h : ∀ x ∈ [a, b], x = true) : a = true ∧ b = true := ⟨h a (by simp), h b (by simp)⟩

theorem idxD_ok {P : Program} {c : Ctx} {t : TypeId} {x i d : D} {bs : List Bool} (h : idxD P c.H t x i = some (d, bs)) (hb : ∀ b ∈ bs, b = true)
    {vx vi : Value} (hx : TV c vx x) (hi : TV c vi i) : ∃ v', (Instr.indexAt t vx vi).run P c.w = .ok v' c.w ∧ TV c v' d := by
  unfold idxD at h
  split at h
  · rename_i e hu
    split at h <;> try cases h
    rename_i sz hs
    split at h
    · rename_i full wd n f kk k
      cases hw : Nat.beq wd sz with
      | false => simp [hw] at h
      | true =>
        simp only [hw, cond_true, Option.some.injEq, Prod.mk.injEq] at h
        obtain ⟨rfl, rfl⟩ := h
        obtain rfl := Nat.eq_of_beq_eq_true hw
        obtain ⟨h1, h2⟩ := all2 hb
        simp only [decide_eq_true_eq] at h1 h2
        obtain rfl := hi.int_inv
        simp only [TV, AV, CV] at hx
        cases hx with
        | sl a n cap wd full f g hfull hcap hb hw' hone hv =>
          obtain ⟨b, off, rfl, hIb, hc⟩ := hb (by omega)
          have hk : k.toNat < n := by omega
          refine ⟨.pointer (some ⟨b, off + k.toNat * wd, none⟩), ?_, ?_⟩
          · simp [Instr.indexAt, asIntOf, run_underlying hu, h1, h2, run_sz hs, add_zero_addr]
          · simp only [TV, AV, CV]
            exact .pp b _ _ (fun j => g k.toNat j) hIb (fun j hj => hc k.toNat hk j (by rw [← hw' _ hk]; exact hj)) (fun j d hd => hv _ hk j d hd)
    · rename_i id off len kk k
      split at h <;> try cases h
      rename_i wd n f ho
      cases hw : Nat.beq wd sz with
      | false => simp [hw] at h
      | true =>
        simp only [hw, cond_true, Option.some.injEq, Prod.mk.injEq] at h
        obtain ⟨rfl, rfl⟩ := h
        obtain rfl := Nat.eq_of_beq_eq_true hw
        obtain ⟨h1, h2⟩ := all2 hb
        simp only [decide_eq_true_eq] at h1 h2
        obtain rfl := hi.int_inv
        simp only [TV, AV, CV] at hx
        obtain ⟨wd', n', f', a, cap, ho', hl, rfl, hcap, hor⟩ := hx
        rw [ho] at ho'
        cases ho'
        rcases hor with h0 | ⟨b, hmu, rfl, hroom⟩
        · omega
        refine ⟨.pointer (some ⟨b, off * wd + k.toNat * wd, none⟩), ?_, ?_⟩
        · simp [Instr.indexAt, asIntOf, run_underlying hu, h1, h2, run_sz hs, add_zero_addr]
        · simp only [TV, AV, CV]
          exact ⟨b, wd, n, f, hmu, ho, by omega, by rw [Nat.add_mul, Nat.add_zero]⟩
    · cases h
  · rename_i len e hu
    split at h <;> try cases h
    rename_i sz hs
    split at h <;> try cases h
    rename_i kk k
    obtain ⟨d', hm, heq⟩ := Option.map_eq_some_iff.1 h
    simp only [Prod.mk.injEq] at heq
    obtain ⟨rfl, rfl⟩ := heq
    obtain ⟨h1, h2⟩ := all2 hb
    simp only [decide_eq_true_eq] at h1 h2
    obtain rfl := hi.int_inv
    obtain ⟨b, off, rfl, ht⟩ := moveD_ok hm hx
    exact ⟨_, by simp [Instr.indexAt, asIntOf, run_underlying hu, Instr.sureAddr, h1, h2, run_sz hs, add_zero_addr], ht⟩
  · cases h

/-- The length. -/
def lenD (P : Program) (t : TypeId) (x : D) : Option D :=
  match P.underlying t, x with
  | some (.slice _), .sl _ _ n _ => some (.int .i64 (n : Int))
  | some (.slice _), .asl _ _ n => some (.int .i64 (n : Int))
  | some (.slice _), .nils => some (.int .i64 0)
  | some .string, .str s => some (.int .i64 (s.size : Int))
  | some (.array n _), _ => some (.int .i64 (n : Int))
  | _, _ => none
theorem lenD_ok {P : Program} {c : Ctx} {t u : TypeId} {x d : D} (h : lenD P t x = some d) {v : Value} (hv : TV c v x) :
    ∃ v', (Builtin.len_ #[t] u #[v]).run P c.w = .ok v' c.w ∧ TV c v' d := by
  unfold lenD at h
  split at h <;> try cases h
  · rename_i e f g n k hu
    simp only [TV, AV, CV] at hv
    cases hv
    exact ⟨_, by simp [Builtin.len_, run_underlying hu, goInt], tv_int _ _⟩
  · rename_i e f g n hu
    simp only [TV, AV, CV] at hv
    obtain ⟨_, _, _, a, cap, _, _, rfl, _⟩ := hv
    exact ⟨_, by simp [Builtin.len_, run_underlying hu, goInt], tv_int _ _⟩
  · rename_i e hu
    simp only [TV, AV, CV] at hv
    cases hv
    exact ⟨_, by simp [Builtin.len_, run_underlying hu, goInt], tv_int _ _⟩
  · rename_i s hu
    obtain rfl := hv.str_inv
    exact ⟨_, by simp [Builtin.len_, run_underlying hu, goInt], tv_int _ _⟩
  · rename_i n e hu
    exact ⟨_, by simp [Builtin.len_, run_underlying hu, goInt], tv_int _ _⟩

/-- A byte of a string. -/
def byteAt (s : ByteArray) (i : Int) : Int := (((s.data.toList[i.toNat]?).getD 0).toNat : Int)
end Nv
