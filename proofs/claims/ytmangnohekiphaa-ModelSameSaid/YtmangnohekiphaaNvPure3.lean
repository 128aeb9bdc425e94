/- Arithmetic, comparisons, conversions, substrings, on abstract values. -/
import Derived.Test.YtmangnohekiphaaNvPure2
namespace Nv
open Go Go.RowKit

def bitD (op : BinOp) (k : IntKind) (a b : Int) : Int :=
  match op with
  | .and => k.wrap (BitVec.ofInt k.bits a &&& BitVec.ofInt k.bits b).toNat
  | .or => k.wrap (BitVec.ofInt k.bits a ||| BitVec.ofInt k.bits b).toNat
  | .xor => k.wrap (BitVec.ofInt k.bits a ^^^ BitVec.ofInt k.bits b).toNat
  | _ => k.wrap (BitVec.ofInt k.bits a &&& ~~~ BitVec.ofInt k.bits b).toNat

def intD (op : BinOp) (k : IntKind) (a b : Int) : Option (D × List Bool) :=
  match op with
  | .add => some (.int k (k.wrap (a + b)), [])
  | .sub => some (.int k (k.wrap (a - b)), [])
  | .mul => some (.int k (k.wrap (a * b)), [])
  | .quo => some (.int k (k.wrap (a.tdiv b)), [!decide (b = 0)])
  | .rem => some (.int k (a.tmod b), [!decide (b = 0)])
  | .and => some (.int k (bitD .and k a b), [])
  | .or => some (.int k (bitD .or k a b), [])
  | .xor => some (.int k (bitD .xor k a b), [])
  | .andNot => some (.int k (bitD .andNot k a b), [])
  | .eql => some (.bool (a == b), [])
  | .neq => some (.bool (a != b), [])
  | .lss => some (.bool (decide (a < b)), [])
  | .leq => some (.bool (decide (a ≤ b)), [])
  | .gtr => some (.bool (decide (a > b)), [])
  | .geq => some (.bool (decide (a ≥ b)), [])
  | .shl => none
  | .shr => none

def strEq (a b : ByteArray) : Bool := a.toList == b.toList
def strLt (a b : ByteArray) : Bool := Op.bytesLess a.toList b.toList

def strD (op : BinOp) (a b : ByteArray) : Option (D × List Bool) :=
  match op with
  | .eql => some (.bool (strEq a b), [])
  | .neq => some (.bool (!strEq a b), [])
  | .lss => some (.bool (strLt a b), [])
  | .leq => some (.bool (strLt a b || strEq a b), [])
  | .gtr => some (.bool (!(strLt a b || strEq a b)), [])
  | .geq => some (.bool (!strLt a b), [])
  | .add => some (.str (a ++ b), [decide (a.size + b.size ≤ 9223372036854775807)])
  | _ => none

/-! equality of aggregates, cell by cell -/
/-- One plain cell. -/
def cellEq (u : TypeDesc) (x y : D) : Option Bool :=
  match u, x, y with
  | .int _, .int k a, .int k' b => if k = k' then some (a == b) else none
  | .bool, .bool a, .bool b => some (a == b)
  | .string, .str a, .str b => some (strEq a b)
  | _, _, _ => none

mutual
/-- A value of type t, laid out in the cells from the list's head on. -/
def typeEq (P : Program) : Nat → TypeId → List D → List D → Option Bool
  | 0, _, _, _ => none
  | n + 1, t, xs, ys => match P.underlying t with
    | some (.struct fs) => match szO P t with
      | some k => bif P.stoodInHeld t || !(Nat.ble k xs.length && Nat.ble k ys.length) then none else fieldsEq P n fs.toList (xs.take k) (ys.take k)
      | none => none
    | some u => match xs.head?, ys.head? with
      | some x, some y => cellEq u x y
      | _, _ => none
    | none => none
def fieldsEq (P : Program) : Nat → List Field → List D → List D → Option Bool
  | 0, _, _, _ => none
  | _ + 1, [], _, _ => some true
  | n + 1, f :: fs, xs, ys =>
    bif f.name == "_" then none else
    match typeEq P n f.type (xs.drop f.offset) (ys.drop f.offset), fieldsEq P n fs xs ys with
    | some a, some b => some (a && b)
    | _, _ => none
end

def aggEq (P : Program) (t : TypeId) (xs ys : List D) : Option Bool :=
  bif P.eqGuardType P.depth t then none else
  match P.underlying t, szO P t with
  | some (.struct _), some k => bif Nat.beq k xs.length && Nat.beq k ys.length then typeEq P 40 t xs ys else none
  | _, _ => none

def binD (P : Program) (op : BinOp) (t : TypeId) (x y : D) : Option (D × List Bool) :=
  match x, y with
  | .int k a, .int k' b =>
    match op with
    | .shl => some (.int k (k.wrap (a * 2 ^ (min b.toNat k.bits))), [decide (0 ≤ b)])
    | .shr => some (.int k (a.fdiv (2 ^ (min b.toNat k.bits))), [decide (0 ≤ b)])
    | op => if k = k' then intD op k a b else none
  | .str a, .str b => strD op a b
  | .bool a, .bool b =>
    match op, P.underlying t with
    | .eql, some .bool => some (.bool (a == b), [])
    | .neq, some .bool => some (.bool (!(a == b)), [])
    | _, _ => none
  | .agg xs, .agg ys =>
    match op with
    | .eql => (aggEq P t xs ys).map fun b => (.bool b, [])
    | .neq => (aggEq P t xs ys).map fun b => (.bool !b, [])
    | _ => none
  | .sl _ _ n _, .nils =>
    match op, P.underlying t with
    | .eql, some (.slice _) => some (.nilq n, [])
    | _, _ => none
  | _, _ => none

theorem intD_ok {P : Program} {op : BinOp} {k : IntKind} {a b : Int} {d : D} {bs : List Bool} (h : intD op k a b = some (d, bs)) (hb : ∀ b ∈ bs, b = true)
    {c : Ctx} {t : TypeId} : ∃ v, (binOp op t (.int k a) (.int k b)).run P c.w = .ok v c.w ∧ TV c v d := by
  unfold intD at h
  split at h <;> simp only [Option.some.injEq, Prod.mk.injEq, reduceCtorEq] at h <;> obtain ⟨rfl, rfl⟩ := h
  case h_4 =>
    have hb0 : b ≠ 0 := by simpa using hb _ (List.mem_singleton.2 rfl)
    exact ⟨_, by simp [binOp, Op.intDiv, hb0], tv_int _ _⟩
  case h_5 =>
    have hb0 : b ≠ 0 := by simpa using hb _ (List.mem_singleton.2 rfl)
    exact ⟨_, by simp [binOp, Op.intDiv, hb0], tv_int _ _⟩
  case h_1 => exact ⟨_, by simp [binOp, Op.intArith], tv_int _ _⟩
  case h_2 => exact ⟨_, by simp [binOp, Op.intArith], tv_int _ _⟩
  case h_3 => exact ⟨_, by simp [binOp, Op.intArith], tv_int _ _⟩
  case h_6 => exact ⟨_, by simp [binOp, Op.intBits, bitD], tv_int _ _⟩
  case h_7 => exact ⟨_, by simp [binOp, Op.intBits, bitD], tv_int _ _⟩
  case h_8 => exact ⟨_, by simp [binOp, Op.intBits, bitD], tv_int _ _⟩
  case h_9 => exact ⟨_, by simp [binOp, Op.intBits, bitD], tv_int _ _⟩
  case h_10 => exact ⟨_, by simp [binOp, Op.intCmp], tv_bool _⟩
  case h_11 => exact ⟨_, by simp [binOp, Op.intCmp], tv_bool _⟩
  case h_12 => exact ⟨_, by simp [binOp, Op.intCmp], tv_bool _⟩
  case h_13 => exact ⟨_, by simp [binOp, Op.intCmp], tv_bool _⟩
  case h_14 => exact ⟨_, by simp [binOp, Op.intCmp], tv_bool _⟩
  case h_15 => exact ⟨_, by simp [binOp, Op.intCmp], tv_bool _⟩

theorem strD_ok {P : Program} {op : BinOp} {a b : ByteArray} {d : D} {bs : List Bool} (h : strD op a b = some (d, bs)) (hb : ∀ b ∈ bs, b = true)
    {c : Ctx} {t : TypeId} : ∃ v, (binOp op t (.string a) (.string b)).run P c.w = .ok v c.w ∧ TV c v d := by
  unfold strD at h
  split at h <;> simp only [Option.some.injEq, Prod.mk.injEq, reduceCtorEq] at h <;> obtain ⟨rfl, rfl⟩ := h
  case h_7 =>
    have h1 := hb _ (List.mem_singleton.2 rfl)
    simp only [decide_eq_true_eq] at h1
    refine ⟨.string (a ++ b), ?_, tv_str _⟩
    have h2 : ¬ (((a.size + b.size : Nat) : Int) > IntKind.i64.max) := by
      have : IntKind.i64.max = 9223372036854775807 := by decide
      rw [this]; omega
    simp only [binOp, Op.stringOp, if_neg h2, Sem.run_pure]
  all_goals exact ⟨_, by simp only [binOp, Op.stringOp, Sem.run_pure]; rfl, tv_bool _⟩

theorem cellEq_ok {P : Program} {c : Ctx} {t : TypeId} {n : Nat} {u : TypeDesc} (hu : P.underlying t = some u) {x y : D} {b : Bool} (h : cellEq u x y = some b)
    {vx vy : Value} (hx : CV c vx x) (hy : CV c vy y) : (Op.equalIn (n + 1) t vx vy).run P c.w = .ok b c.w := by
  unfold cellEq at h
  split at h
  · rename_i k0 k a k' b'
    split at h <;> simp only [Option.some.injEq, reduceCtorEq] at h
    rename_i hk; subst hk; subst h
    simp only [CV] at hx hy
    cases hx; cases hy
    exact run_equalIn_int c.w n t k k0 a b' hu
  · simp only [Option.some.injEq] at h
    subst h
    simp only [CV] at hx hy
    cases hx; cases hy
    exact run_equalIn_bool' c.w n t _ _ hu
  · simp only [Option.some.injEq] at h
    subst h
    simp only [CV] at hx hy
    cases hx; cases hy
    exact run_equalIn_string c.w n t _ _ hu
  · cases h
/-- A value of type t lies in the list's first cells. -/
def Laid (P : Program) (c : Ctx) (t : TypeId) (v : Value) (xs : List D) : Prop :=
  (∃ fs k vs, P.underlying t = some (.struct fs) ∧ szO P t = some k ∧ k ≤ xs.length ∧ v = .agg vs ∧ Vs (CV c) vs (xs.take k)) ∨
  (∃ u x, P.underlying t = some u ∧ aggB u = false ∧ xs.head? = some x ∧ CV c v x)

/-- Cells enough for a value of type t. -/
def Fits (P : Program) (t : TypeId) (xs : List D) : Prop :=
  (∃ fs k, P.underlying t = some (.struct fs) ∧ szO P t = some k ∧ k ≤ xs.length) ∨ (∃ u x, P.underlying t = some u ∧ aggB u = false ∧ xs.head? = some x)

theorem part_laid {P : Program} {c : Ctx} {t : TypeId} {vs : Array Value} {xs : List D} {o : Nat} (h : Fits P t (xs.drop o))
    (hv : Vs (CV c) vs xs) : ∃ v, (part t vs o).run P c.w = .ok v c.w ∧ Laid P c t v (xs.drop o) := by
  rcases h with ⟨fs, k, hu, hs, hk⟩ | ⟨u, x, hu, ha, hx⟩
  · have hk2 : o + k ≤ xs.length ∨ k = 0 := by simp at hk; omega
    refine ⟨.agg (vs.extract o (o + k)), by simp [part, run_agg hu, aggB, run_sz hs], .inl ⟨fs, k, _, hu, hs, hk, rfl, ?_, fun i v d h1 h2 => ?_⟩⟩
    · simp [hv.1]
      omega
    · have hi : i < k := by have := (List.getElem?_eq_some_iff.1 h2).1; simp at this; omega
      rw [List.getElem?_take_of_lt hi, List.getElem?_drop] at h2
      rw [Array.getElem?_extract] at h1
      split at h1
      · exact hv.2 _ v d h1 h2
      · cases h1
  · have h0 : xs[o]? = some x := by rw [List.head?_drop] at hx; exact hx
    have hlt : o < vs.size := by rw [hv.1]; exact (List.getElem?_eq_some_iff.1 h0).1
    exact ⟨vs[o], by simp [part, run_agg hu, ha, hlt], .inr ⟨u, x, hu, ha, hx, hv.2 o _ x (by simp [hlt]) h0⟩⟩

theorem typeEq_fits {P : Program} {n : Nat} {t : TypeId} {xs ys : List D} {b : Bool} (h : typeEq P n t xs ys = some b) : Fits P t xs ∧ Fits P t ys := by
  cases n with
  | zero => simp [typeEq] at h
  | succ n =>
    unfold typeEq at h
    split at h
    · rename_i fs hu
      split at h <;> try cases h
      rename_i k hs
      cases hc : (P.stoodInHeld t || !(Nat.ble k xs.length && Nat.ble k ys.length)) with
      | true => rw [hc] at h; cases h
      | false =>
        simp at hc
        exact ⟨.inl ⟨fs, k, hu, hs, hc.2.1⟩, .inl ⟨fs, k, hu, hs, hc.2.2⟩⟩
    · rename_i u hns hu
      split at h <;> try cases h
      rename_i x y hx hy
      have ha : aggB u = false := by
        cases u <;> first | rfl | skip
        · simp [cellEq] at h
        · exact absurd rfl (hns _)
      exact ⟨.inr ⟨u, x, hu, ha, hx⟩, .inr ⟨u, y, hu, ha, hy⟩⟩
    · cases h

theorem eq_ok (P : Program) (c : Ctx) : ∀ n,
    (∀ t xs ys b, typeEq P n t xs ys = some b → ∀ m, n ≤ m → ∀ vx vy, Laid P c t vx xs → Laid P c t vy ys → (Op.equalIn m t vx vy).run P c.w = .ok b c.w) ∧
    (∀ fs xs ys b, fieldsEq P n fs xs ys = some b → ∀ m, n ≤ m → ∀ vx vy, Vs (CV c) vx xs → Vs (CV c) vy ys → (Op.eqFields m vx vy fs).run P c.w = .ok b c.w)
  | 0 => ⟨fun t xs ys b h => by simp [typeEq] at h, fun fs xs ys b h => by simp [fieldsEq] at h⟩
  | n + 1 => by
    have ih := eq_ok P c n
    constructor
    · intro t xs ys b h m hm vx vy hx hy
      obtain ⟨m, rfl⟩ : ∃ m', m = m' + 1 := ⟨m - 1, by omega⟩
      unfold typeEq at h
      split at h
      · rename_i fs hu
        split at h <;> try cases h
        rename_i k hs
        cases hc : (P.stoodInHeld t || !(Nat.ble k xs.length && Nat.ble k ys.length)) with
        | true => rw [hc] at h; cases h
        | false =>
          simp only [hc, cond_false] at h
          simp at hc
          rcases hx with ⟨fs1, k1, v1, hu1, hs1, _, rfl, hv1⟩ | ⟨u, x, hu1, ha, _⟩
          · rcases hy with ⟨fs2, k2, v2, hu2, hs2, _, rfl, hv2⟩ | ⟨u, x, hu2, ha, _⟩
            · rw [hs] at hs1 hs2
              cases hs1; cases hs2
              have hf : P.fieldsOf t = fs := by simp [Program.fieldsOf, hu]
              rw [run_equalIn_struct c.w m t v1 v2 (by rw [hf]; exact hu) hc.1, hf]
              exact ih.2 _ _ _ _ h m (by omega) _ _ hv1 hv2
            · rw [hu] at hu2; cases hu2; simp [aggB] at ha
          · rw [hu] at hu1; cases hu1; simp [aggB] at ha
      · rename_i u hns hu
        split at h
        · rename_i x y hx0 hy0
          rcases hx with ⟨fs1, k1, v1, hu1, _⟩ | ⟨u1, x1, hu1, ha, hh1, hv1⟩
          · rw [hu] at hu1; cases hu1; exact absurd rfl (hns _)
          · rcases hy with ⟨fs2, k2, v2, hu2, _⟩ | ⟨u2, y1, hu2, _, hh2, hv2⟩
            · rw [hu] at hu2; cases hu2; exact absurd rfl (hns _)
            · rw [hx0] at hh1; cases hh1
              rw [hy0] at hh2; cases hh2
              exact cellEq_ok hu h hv1 hv2
        · cases h
      · cases h
    · intro fs xs ys b h m hm vx vy hx hy
      cases fs with
      | nil => simp [fieldsEq] at h; subst h; simp [Op.eqFields]
      | cons f fs =>
        unfold fieldsEq at h
        cases hn : (f.name == "_") with
        | true => simp [hn] at h
        | false =>
          simp only [hn, cond_false] at h
          split at h <;> try cases h
          rename_i a b' h1 h2
          have hl := typeEq_fits h1
          obtain ⟨va, hpa, hla⟩ := part_laid hl.1 hx
          obtain ⟨vb, hpb, hlb⟩ := part_laid hl.2 hy
          have hne : f.name ≠ "_" := by simpa using hn
          have he := ih.1 _ _ _ _ h1 m (by omega) _ _ hla hlb
          have hr := ih.2 _ _ _ _ h2 m (by omega) _ _ hx hy
          simp only [Op.eqFields, if_pos hne, Sem.run_bind, hpa, hpb, he, Result.andThen_ok]
          cases a
          · simp
          · simp [hr]
end Nv
