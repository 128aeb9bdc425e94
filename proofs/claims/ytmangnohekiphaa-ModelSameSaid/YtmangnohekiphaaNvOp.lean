/- One operation that changes no object. -/
import Derived.Test.YtmangnohekiphaaNvBuild
namespace Nv
open Go Go.RowKit

def persB : D → Bool
  | .int _ _ | .bool _ | .str _ | .nilp | .nils | .sl _ _ _ _ | .pp _ | .any | .fn _ [] => true
  | _ => false
theorem pers_pv {c : Ctx} {v : Value} {d : D} (hp : persB d = true) (h : CV c v d) : PV c.I c.w v d := by
  cases d <;> first | exact h | simp [persB] at hp

/-- One cell that is not an aggregate. -/
def cellB : D → Bool
  | .int _ _ | .bool _ | .str _ | .nilp | .nils | .sl _ _ _ _ | .pp _ | .ref _ _ | .eref _ _ _ | .asl _ _ _ | .fn _ [] => true
  | _ => false
theorem cv_one {c : Ctx} {v : Value} {d : D} (hp : cellB d = true) (h : CV c v d) : v.oneCell' = true := by
  cases d <;> first | (simp [cellB] at hp; done) | simp only [CV] at h
  case ref => obtain ⟨b, _, rfl⟩ := h; rfl
  case eref => obtain ⟨b, _, _, _, _, _, _, rfl⟩ := h; rfl
  case asl => obtain ⟨_, _, _, _, _, _, _, rfl, _⟩ := h; rfl
  all_goals cases h; rfl
theorem cell_cv {c : Ctx} {v : Value} {d : D} (hp : cellB d = true) (h : TV c v d) : CV c v d := by
  cases d <;> first | exact h | (simp [cellB] at hp; done) | skip
  rename_i f cap
  cases cap with
  | cons d ds => simp [cellB] at hp
  | nil =>
    obtain ⟨vs, rfl, hs, _⟩ := h
    have : vs = #[] := Array.eq_empty_of_size_eq_zero hs
    subst this
    exact .fn f

def minmaxD (mx : Bool) : List D → D → Option D
  | [], d => some d
  | .int _ b :: rest, .int k a => minmaxD mx rest (.int k (bif mx then (if b > a then b else a) else (if b < a then b else a)))
  | _ :: _, _ => none

theorem min_ok {P : Program} {c : Ctx} : ∀ (ds : List D) (vs : List Value) (d : D) (v : Value) (r : D), TV c v d → vs.length = ds.length → (∀ (i : Nat) v d, vs[i]? = some v → ds[i]? = some d → TV c v d) →
    minmaxD false ds d = some r → ∃ v', (vs.foldlM Builtin.min2 v).run P c.w = .ok v' c.w ∧ TV c v' r
  | [], vs, d, v, r, hv, hl, _, h => by
    cases vs <;> simp at hl
    simp [minmaxD] at h
    subst h
    exact ⟨v, by simp, hv⟩
  | e :: ds, vs, d, v, r, hv, hl, hp, h => by
    cases vs with
    | nil => simp at hl
    | cons u vs =>
      cases e <;> try (simp [minmaxD] at h; done)
      rename_i k' b
      cases d <;> try (simp [minmaxD] at h; done)
      rename_i k a
      simp only [minmaxD, cond_false] at h
      obtain rfl := hv.int_inv
      obtain rfl := (hp 0 _ _ rfl rfl).int_inv
      obtain ⟨v', h1, h2⟩ := min_ok (P := P) ds vs (.int k (if b < a then b else a)) (.int k (if b < a then b else a)) r (tv_int _ _) (by simpa using hl)
        (fun i v d h3 h4 => hp (i + 1) v d (by simpa using h3) (by simpa using h4)) h
      exact ⟨v', by simpa [Builtin.min2] using h1, h2⟩
theorem max_ok {P : Program} {c : Ctx} : ∀ (ds : List D) (vs : List Value) (d : D) (v : Value) (r : D), TV c v d → vs.length = ds.length → (∀ (i : Nat) v d, vs[i]? = some v → ds[i]? = some d → TV c v d) →
    minmaxD true ds d = some r → ∃ v', (vs.foldlM Builtin.max2 v).run P c.w = .ok v' c.w ∧ TV c v' r
  | [], vs, d, v, r, hv, hl, _, h => by
    cases vs <;> simp at hl
    simp [minmaxD] at h
    subst h
    exact ⟨v, by simp, hv⟩
  | e :: ds, vs, d, v, r, hv, hl, hp, h => by
    cases vs with
    | nil => simp at hl
    | cons u vs =>
      cases e <;> try (simp [minmaxD] at h; done)
      rename_i k' b
      cases d <;> try (simp [minmaxD] at h; done)
      rename_i k a
      simp only [minmaxD, cond_true] at h
      obtain rfl := hv.int_inv
      obtain rfl := (hp 0 _ _ rfl rfl).int_inv
      obtain ⟨v', h1, h2⟩ := max_ok (P := P) ds vs (.int k (if b > a then b else a)) (.int k (if b > a then b else a)) r (tv_int _ _) (by simpa using hl)
        (fun i v d h3 h4 => hp (i + 1) v d (by simpa using h3) (by simpa using h4)) h
      exact ⟨v', by simpa [Builtin.max2] using h1, h2⟩

/-- 's[i]' of a string; 'a[i]' of an array that is a value, at a known index. -/
def indexD (P : Program) (t : TypeId) (x i : D) : Option (D × List Bool) :=
  match P.underlying t, x, i with
  | some .string, .str s, .int _ k => some (.int .u8 (byteAt s k), [decide (0 ≤ k), decide (k < (s.size : Int))])
  | some (.array len e), .agg cs, .int _ k => match szO P e with
    | some sz => (partD P e cs (k.toNat * sz)).map fun d => (d, [decide (0 ≤ k), decide (k < (len : Int))])
    | none => none
  | _, _, _ => none
theorem indexD_ok {P : Program} {c : Ctx} {t : TypeId} {x i d : D} {bs : List Bool} (h : indexD P t x i = some (d, bs)) (hb : ∀ b ∈ bs, b = true)
    {vx vi : Value} (hx : TV c vx x) (hi : TV c vi i) : ∃ v', (Instr.index t vx vi).run P c.w = .ok v' c.w ∧ TV c v' d := by
  unfold indexD at h
  split at h
  · rename_i s kk k hu
    simp only [Option.some.injEq, Prod.mk.injEq] at h
    obtain ⟨rfl, rfl⟩ := h
    obtain ⟨h1, h2⟩ := all2 hb
    simp only [decide_eq_true_eq] at h1 h2
    obtain rfl := hx.str_inv
    obtain rfl := hi.int_inv
    have hlt : k.toNat < s.size := by omega
    have e : (s.data.toList[k.toNat]?).getD 0 = s[k.toNat] := by
      have : k.toNat < s.data.toList.length := by simpa using hlt
      rw [List.getElem?_eq_getElem this]
      rfl
    refine ⟨.int .u8 (byteAt s k), ?_, tv_int _ _⟩
    simp only [byteAt, e]
    simp [Instr.index, asIntOf, run_underlying hu, h1, hlt]
  · rename_i len e cs kk k hu
    split at h <;> try cases h
    rename_i sz hs
    obtain ⟨d', hp, heq⟩ := Option.map_eq_some_iff.1 h
    simp only [Prod.mk.injEq] at heq
    obtain ⟨rfl, rfl⟩ := heq
    obtain ⟨h1, h2⟩ := all2 hb
    simp only [decide_eq_true_eq] at h1 h2
    obtain ⟨vs, rfl, hvs⟩ := hx
    obtain rfl := hi.int_inv
    obtain ⟨v', h3, h4⟩ := partD_ok hp hvs
    exact ⟨v', by simp [Instr.index, asIntOf, run_underlying hu, h1, h2, run_sz hs, h3], h4⟩
  · cases h

/-- '[]T{..}': all elements given. -/
def buildSliceD (P : Program) (t : TypeId) (len : Nat) (ps : List (Nat × D)) : Option D :=
  match P.underlying t with
  | some (.slice e) => match szO P e, zeroD P e with
    | some sz, some zs => bif Nat.ble (len * sz) 16777216 && Nat.beq zs.length sz then
        (match fillD (fun i => some (i * sz, sz)) (List.replicate (len * sz) .any) ps with
        | some out => bif out.all (fun d => persB d && cellB d) then some (.sl true sz len fun i => (out.drop (i * sz)).take sz) else none
        | none => none) else none
    | _, _ => none
  | _ => none

theorem fillD_len (place : Nat → Option (Nat × Nat)) : ∀ (ps : List (Nat × D)) (cells out : List D), fillD place cells ps = some out → out.length = cells.length
  | [], cells, out, h => by simp [fillD] at h; subst h; rfl
  | (i, d) :: ps, cells, out, h => by
    simp only [fillD] at h
    split at h <;> try cases h
    rename_i off size cs hpl hcs
    cases hc : (Nat.beq cs.length size && Nat.ble (off + size) cells.length) with
    | false => rw [hc] at h; cases h
    | true =>
      simp only [hc, cond_true] at h
      simp at hc
      rw [fillD_len place ps _ out h]
      simp
      omega

/-- A new block of persistent cells. -/
def Ctx.grow (c : Ctx) (o : Obj) : Ctx := { c with I := fun b => c.I b ∨ b = c.w.heap.size, w := c.w.alloc o }
theorem grow_goes {F : Fr} {c : Ctx} (h : Inv F c) (o : Obj) : Goes c (c.grow o) :=
  ⟨rfl, rfl, fun _ h => .inl h, fun _ hb => Below.heap_alloc _ _ _ hb, fun b hb => (h.imm b hb).1, fun id b hb => (h.loc id b hb).2.1⟩
theorem grow_inv {F : Fr} {c : Ctx} (h : Inv F c) (o : Obj) : Inv F (c.grow o) :=
  h.goes (grow_goes h o) ((Below.refl _ _).alloc (Nat.le_refl _) o) fun _ hb => hb.imp id fun e => ⟨by omega, by subst e; simp [Ctx.grow]⟩

theorem buildSliceD_ok {P : Program} {F : Fr} {c : Ctx} (hI : Inv F c) {t : TypeId} {len : Nat} {ps : Array (Nat × Operand)} {ρc : Operand → Value} {ρd : Operand → D} (hρ : ∀ p ∈ ps.toList, TV c (ρc p.2) (ρd p.2)) {d : D}
    (h : buildSliceD P t len (ps.toList.map fun p => (p.1, ρd p.2)) = some d) :
    ∃ v c', (Instr.buildSlice t len (ps.map fun p => (p.1, ρc p.2))).run P c.w = .ok v c'.w ∧ Inv F c' ∧ Goes c c' ∧ Below c.w.heap.size c.w c'.w ∧ TV c' v d := by
  unfold buildSliceD at h
  split at h <;> try cases h
  rename_i e hu
  split at h <;> try cases h
  rename_i sz zs hs hz
  cases hsz : (Nat.ble (len * sz) 16777216 && Nat.beq zs.length sz) with
  | false => rw [hsz] at h; cases h
  | true =>
    simp only [hsz, cond_true] at h
    simp at hsz
    obtain ⟨hle, hzl⟩ := hsz
    split at h <;> try cases h
    rename_i out ho
    cases hp : out.all (fun d => persB d && cellB d) with
    | false => simp [hp] at h
    | true =>
      simp only [hp, cond_true, Option.some.injEq] at h
      subst h
      obtain ⟨z, hz1, hz2⟩ := zeroD_ok hz c
      have hzs : z.cells.size = sz := by rw [hz2.1, hzl]
      let base : Array Value := (Array.range (len * sz)).map fun i => (if len * sz = 0 then (#[] : Array Value) else z.cells)[i % (if len * sz = 0 then (#[] : Array Value) else z.cells).size]!
      have hbase : Vs (CV c) base (List.replicate (len * sz) .any) := by
        refine ⟨by simp [base], fun i v d _ h2 => ?_⟩
        rw [List.getElem?_replicate] at h2
        split at h2 <;> simp only [Option.some.injEq, reduceCtorEq] at h2
        subst h2
        simp only [CV]
        exact .any v
      obtain ⟨vs', h1, h2⟩ := fill_ok (fun i => some (i * sz, sz)) ρc ρd ps.toList _ base out hρ hbase ho
      have hol : out.length = len * sz := by rw [fillD_len _ _ _ _ ho]; simp
      refine ⟨.slice (some ⟨c.w.heap.size, 0, none⟩) len len, c.grow (.cells vs' e), ?_, grow_inv hI _, grow_goes hI _, (Below.refl _ _).alloc (Nat.le_refl _) _, ?_⟩
      · have hn : ¬ len * sz > 2 ^ 24 := by omega
        have hff : Instr.fill (fun i => some (i * sz, sz)) base (ps.map fun p => (p.1, ρc p.2)).toList = some vs' := by rw [Array.toList_map]; exact h1
        by_cases h0 : len * sz = 0
        · simp only [base, if_pos h0] at hff
          simp only [Instr.buildSlice, Sem.run_bind, run_underlying hu, Result.andThen_ok, run_sz hs, if_neg hn, if_pos h0, Sem.run_pure, hff, newRow, run_newObj]
          rfl
        · simp only [base, if_neg h0] at hff
          simp only [Instr.buildSlice, Sem.run_bind, run_underlying hu, Result.andThen_ok, run_sz hs, if_neg hn, if_neg h0, Sem.run_pure, hz1, hff, newRow, run_newObj]
          rfl
      · apply tv_pv
        have hsz : vs'.size = len * sz := by rw [h2.1, hol]
        refine .sl _ len len sz true _ (fun i j => vs'.getD (i * sz + j) undef) (fun _ => rfl) (Nat.le_refl _) (fun hn => ⟨c.w.heap.size, 0, rfl, .inr rfl, fun i hi j hj => ?_⟩) (fun i hi => ?_) (fun i hi j hj => ?_) (fun i hi j d hd => ?_)
        · have : i * sz + j < len * sz := by
            have := Nat.mul_le_mul_right sz hi
            rw [Nat.succ_mul] at this
            omega
          simp [Ctx.grow, hsz, this]
        · have := Nat.mul_le_mul_right sz hi
          rw [Nat.succ_mul] at this
          simp [hol]; omega
        · have hlt2 : i * sz + j < len * sz := by
            have := Nat.mul_le_mul_right sz hi
            rw [Nat.succ_mul] at this
            omega
          have hlt3 : i * sz + j < out.length := by omega
          have h3 := h2.2 (i * sz + j) (vs'.getD (i * sz + j) undef) out[i * sz + j] (by simp [hsz, hlt2]) (by simp [hlt3])
          have hmem := List.all_eq_true.1 hp out[i * sz + j] (List.getElem_mem hlt3)
          simp only [Bool.and_eq_true] at hmem
          exact cv_one hmem.2 h3
        · have hlt := (List.getElem?_eq_some_iff.1 hd).1
          simp at hlt
          rw [List.getElem?_take_of_lt (by omega), List.getElem?_drop] at hd
          have hlt2 : i * sz + j < vs'.size := by rw [h2.1]; omega
          have h3 := h2.2 (i * sz + j) (vs'.getD (i * sz + j) undef) d (by simp [hlt2]) hd
          have hmem := List.all_eq_true.1 hp d (List.mem_of_getElem? hd)
          simp only [Bool.and_eq_true] at hmem
          exact (grow_goes hI _).pv (pers_pv hmem.1 h3)
end Nv
