/- Comparisons and arithmetic put together; conversions; slicing; struct and slice literals. -/
import Derived.Test.YtmangnohekiphaaNvPure3
namespace Nv
open Go Go.RowKit

theorem eqGuard_int {P : Program} {w : World} (op : BinOp) (t : TypeId) (ox oy : Operand) (k k' : IntKind) (x y : Int) : (eqGuard op t ox oy (.int k x) (.int k' y)).run P w = .ok () w := by
  cases op <;> simp [eqGuard]
theorem eqGuard_str {P : Program} {w : World} (op : BinOp) (t : TypeId) (ox oy : Operand) (x y : ByteArray) : (eqGuard op t ox oy (.string x) (.string y)).run P w = .ok () w := by
  cases op <;> simp [eqGuard]
theorem eqGuard_bool {P : Program} {w : World} (op : BinOp) (t : TypeId) (ox oy : Operand) (x y : Bool) : (eqGuard op t ox oy (.bool x) (.bool y)).run P w = .ok () w := by
  cases op <;> simp [eqGuard]

theorem binD_ok {P : Program} {c : Ctx} {op : BinOp} {t : TypeId} {x y d : D} {bs : List Bool} (h : binD P op t x y = some (d, bs)) (hb : ∀ b ∈ bs, b = true)
    {vx vy : Value} (hx : TV c vx x) (hy : TV c vy y) (ox oy : Operand) :
    ∃ v, ((do eqGuard op t ox oy vx vy; binOp op t vx vy : Sem Value)).run P c.w = .ok v c.w ∧ TV c v d := by
  unfold binD at h
  split at h
  · rename_i k a k' b
    obtain rfl := hx.int_inv
    obtain rfl := hy.int_inv
    have hg : (eqGuard op t ox oy (.int k a) (.int k' b)).run P c.w = .ok () c.w := eqGuard_int op t ox oy _ _ _ _
    simp only [Sem.run_bind, hg, Result.andThen_ok]
    split at h
    · simp only [Option.some.injEq, Prod.mk.injEq] at h
      obtain ⟨rfl, rfl⟩ := h
      have h0 : ¬ b < 0 := by have := hb _ (List.mem_singleton.2 rfl); simp at this; omega
      exact ⟨_, by simp [binOp, Op.shift, h0], tv_int _ _⟩
    · simp only [Option.some.injEq, Prod.mk.injEq] at h
      obtain ⟨rfl, rfl⟩ := h
      have h0 : ¬ b < 0 := by have := hb _ (List.mem_singleton.2 rfl); simp at this; omega
      exact ⟨_, by simp [binOp, Op.shift, h0], tv_int _ _⟩
    · split at h
      · rename_i hk
        subst hk
        exact intD_ok h hb
      · cases h
  · rename_i a b
    obtain rfl := hx.str_inv
    obtain rfl := hy.str_inv
    have hg : (eqGuard op t ox oy (.string a) (.string b)).run P c.w = .ok () c.w := eqGuard_str op t ox oy _ _
    simp only [Sem.run_bind, hg, Result.andThen_ok]
    exact strD_ok h hb
  · rename_i a b
    obtain rfl := hx.bool_inv
    obtain rfl := hy.bool_inv
    have hg : (eqGuard op t ox oy (.bool a) (.bool b)).run P c.w = .ok () c.w := eqGuard_bool op t ox oy _ _
    simp only [Sem.run_bind, hg, Result.andThen_ok]
    split at h <;> simp only [Option.some.injEq, Prod.mk.injEq, reduceCtorEq] at h
    · rename_i hu
      obtain ⟨rfl, rfl⟩ := h
      exact ⟨_, by simp [binOp, Op.equal, Op.maxDepth, run_equalIn_bool' c.w 9999 t a b hu], tv_bool _⟩
    · rename_i hu
      obtain ⟨rfl, rfl⟩ := h
      exact ⟨_, by simp [binOp, Op.equal, Op.maxDepth, run_equalIn_bool' c.w 9999 t a b hu], tv_bool _⟩
  · rename_i xs ys
    obtain ⟨v1, rfl, hv1⟩ := hx
    obtain ⟨v2, rfl, hv2⟩ := hy
    have key : ∀ r, aggEq P t xs ys = some r → (eqGuard op t ox oy (.agg v1) (.agg v2)).run P c.w = .ok () c.w ∧ (Op.equalIn 10000 t (.agg v1) (.agg v2)).run P c.w = .ok r c.w := by
      intro r hr
      unfold aggEq at hr
      cases hg : P.eqGuardType P.depth t with
      | true => simp [hg] at hr
      | false =>
        simp only [hg, cond_false] at hr
        split at hr <;> try cases hr
        rename_i fs k hu hs
        cases hk : (Nat.beq k xs.length && Nat.beq k ys.length) with
        | false => rw [hk] at hr; cases hr
        | true =>
          simp only [hk, cond_true] at hr
          simp at hk
          have e1 : xs.take k = xs := by rw [hk.1]; simp
          have e2 : ys.take k = ys := by rw [hk.2]; simp
          exact ⟨run_eqGuard_agg c.w op t ox oy v1 v2 hg, (eq_ok P c 40).1 _ _ _ _ hr 10000 (by omega) _ _
            (.inl ⟨fs, k, v1, hu, hs, by omega, rfl, by rw [e1]; exact hv1⟩) (.inl ⟨fs, k, v2, hu, hs, by omega, rfl, by rw [e2]; exact hv2⟩)⟩
    split at h
    · obtain ⟨r, hr, heq⟩ := Option.map_eq_some_iff.1 h
      simp only [Prod.mk.injEq] at heq
      obtain ⟨rfl, rfl⟩ := heq
      obtain ⟨hg, he⟩ := key r hr
      exact ⟨_, by simp [hg, binOp, Op.equal, Op.maxDepth, he], tv_bool _⟩
    · obtain ⟨r, hr, heq⟩ := Option.map_eq_some_iff.1 h
      simp only [Prod.mk.injEq] at heq
      obtain ⟨rfl, rfl⟩ := heq
      obtain ⟨hg, he⟩ := key r hr
      exact ⟨_, by simp [hg, binOp, Op.equal, Op.maxDepth, he], tv_bool _⟩
    · cases h
  · rename_i full wd n f
    split at h <;> try cases h
    rename_i e hu
    simp only [TV, AV, CV] at hx hy
    cases hy
    cases hx with
    | sl a n cap wd full f g hfull hcap hb' hw hone hv =>
      have hg : (eqGuard .eql t ox oy (.slice a n cap) (.slice none 0 0)).run P c.w = .ok () c.w := by simp [eqGuard]
      refine ⟨.bool a.isNone, ?_, ?_⟩
      · have he : (Op.equalIn 10000 t (.slice a n cap) (.slice none 0 0)).run P c.w = .ok a.isNone c.w := by
          unfold Op.equalIn
          cases a <;> simp only [Sem.run_bind, run_underlying hu, Result.andThen_ok] <;> rfl
        simp [hg, binOp, Op.equal, Op.maxDepth, he]
      · simp only [TV, AV, CV]
        refine .nilq _ n fun h => ?_
        rcases Nat.eq_zero_or_pos n with h0 | h0
        · exact h0
        · obtain ⟨b, off, ha, _⟩ := hb' h0
          rw [ha] at h
          cases h
  · cases h

def unD (op : UnOp) (x : D) : Option D :=
  match op, x with
  | .not, .bool b => some (.bool !b)
  | .neg, .int k n => some (.int k (k.wrap (0 - n)))
  | .xor, .int k n => some (.int k (bitD .xor k (if k.signed then -1 else k.max) n))
  | _, _ => none
theorem unD_ok {P : Program} {c : Ctx} {op : UnOp} {x d : D} (h : unD op x = some d) {v : Value} (hv : TV c v x) :
    ∃ v', (Op.unary op v).run P c.w = .ok v' c.w ∧ TV c v' d := by
  unfold unD at h
  split at h <;> simp only [Option.some.injEq, reduceCtorEq] at h <;> subst h
  · obtain rfl := hv.bool_inv; exact ⟨_, by simp [Op.unary], tv_bool _⟩
  · obtain rfl := hv.int_inv; exact ⟨_, by simp [Op.unary, Op.intArith], tv_int _ _⟩
  · obtain rfl := hv.int_inv; exact ⟨_, by simp [Op.unary, Op.intBits, bitD], tv_int _ _⟩

def convD (P : Program) (src dst : TypeId) (x : D) : Option D :=
  match P.underlying src, P.underlying dst, x with
  | some _, some (.int k), .int _ n => some (.int k (k.wrap n))
  | some _, some .string, .str s => some (.str s)
  | _, _, _ => none
theorem convD_ok {P : Program} {c : Ctx} {s t : TypeId} {x d : D} (h : convD P s t x = some d) {v : Value} (hv : TV c v x) :
    ∃ v', (convert s t v).run P c.w = .ok v' c.w ∧ TV c v' d := by
  unfold convD at h
  split at h <;> simp only [Option.some.injEq, reduceCtorEq] at h <;> subst h
  · rename_i u k kk n hs ht
    obtain rfl := hv.int_inv
    exact ⟨_, by simp [convert, run_underlying hs, run_underlying ht, Conv.intToInt], tv_int _ _⟩
  · rename_i u s' hs ht
    obtain rfl := hv.str_inv
    exact ⟨_, by simp [convert, run_underlying hs, run_underlying ht], tv_str _⟩

/-! slicing -/
def sliceHi (n : Nat) : Option D → Option (Nat × List Bool)
  | none => some (n, [])
  | some (.int _ h) => some (h.toNat, [decide (0 ≤ h), decide (h ≤ (n : Int))])
  | _ => none
def sliceLo (h : Nat) : Option D → Option (Nat × List Bool)
  | none => some (0, [])
  | some (.int _ l) => some (l.toNat, [decide (0 ≤ l), decide (l ≤ (h : Int))])
  | _ => none

def sliceD (P : Program) (H : List Ob) (t : TypeId) (x : D) (lo hi : Option D) : Option (D × List Bool) :=
  match P.underlying t, x with
  | some (.slice e), .sl _ wd n f => match szO P e, sliceHi n hi with
    | some sz, some (h, c1) => match sliceLo h lo with
      | some (l, c2) => bif Nat.beq wd sz then some (.sl false wd (h - l) fun i => f (l + i), c1 ++ c2) else none
      | none => none
    | _, _ => none
  | some (.slice e), .asl id off n => match H[id]?, szO P e, sliceHi n hi with
    | some (.arr wd _ _), some sz, some (h, c1) => match sliceLo h lo with
      | some (l, c2) => bif Nat.beq wd sz then some (.asl id (off + l) (h - l), c1 ++ c2) else none
      | none => none
    | _, _, _ => none
  | some .string, .str s => match sliceHi s.size hi with
    | some (h, c1) => match sliceLo h lo with
      | some (l, c2) => some (.str (s.extract l h), c1 ++ c2)
      | none => none
    | none => none
  | _, _ => none

/-- 's[:h:h]': no room behind it. -/
def slice3D (P : Program) (t : TypeId) (x : D) (lo : Option D) (hi : D) : Option (D × List Bool) :=
  match P.underlying t, x with
  | some (.slice e), .sl _ wd n f => match szO P e, sliceHi n (some hi) with
    | some sz, some (h, c1) => match sliceLo h lo with
      | some (l, c2) => bif Nat.beq wd sz then some (.sl true wd (h - l) fun i => f (l + i), c1 ++ c2) else none
      | none => none
    | _, _ => none
  | _, _ => none

theorem hi_ok {c : Ctx} {n h : Nat} {hi : Option D} {c1 : List Bool} (hh : sliceHi n hi = some (h, c1)) (hb : ∀ b ∈ c1, b = true) {vh : Option Value}
    (hn : vh = none ↔ hi = none) (hv : ∀ v d, vh = some v → hi = some d → TV c v d) :
    h ≤ n ∧ ((vh = none ∧ h = n) ∨ ∃ k z, vh = some (.int k z) ∧ 0 ≤ z ∧ z ≤ (n : Int) ∧ h = z.toNat) := by
  unfold sliceHi at hh
  split at hh <;> simp only [Option.some.injEq, Prod.mk.injEq, reduceCtorEq] at hh <;> obtain ⟨rfl, rfl⟩ := hh
  · exact ⟨Nat.le_refl _, .inl ⟨hn.2 rfl, rfl⟩⟩
  · rename_i kk h
    obtain ⟨h1, h2⟩ := all2 hb
    simp only [decide_eq_true_eq] at h1 h2
    refine ⟨by omega, .inr ?_⟩
    cases vh with
    | none => simp at hn
    | some v =>
      obtain rfl := (hv v _ rfl rfl).int_inv
      exact ⟨kk, h, rfl, h1, h2, rfl⟩

theorem lo_ok {c : Ctx} {h l : Nat} {lo : Option D} {c2 : List Bool} (hh : sliceLo h lo = some (l, c2)) (hb : ∀ b ∈ c2, b = true) {vl : Option Value}
    (hn : vl = none ↔ lo = none) (hv : ∀ v d, vl = some v → lo = some d → TV c v d) :
    l ≤ h ∧ ((vl = none ∧ l = 0) ∨ ∃ k z, vl = some (.int k z) ∧ 0 ≤ z ∧ z ≤ (h : Int) ∧ l = z.toNat) := by
  unfold sliceLo at hh
  split at hh <;> simp only [Option.some.injEq, Prod.mk.injEq, reduceCtorEq] at hh <;> obtain ⟨rfl, rfl⟩ := hh
  · exact ⟨Nat.zero_le _, .inl ⟨hn.2 rfl, rfl⟩⟩
  · rename_i kk l
    obtain ⟨h1, h2⟩ := all2 hb
    simp only [decide_eq_true_eq] at h1 h2
    refine ⟨by omega, .inr ?_⟩
    cases vl with
    | none => simp at hn
    | some v =>
      obtain rfl := (hv v _ rfl rfl).int_inv
      exact ⟨kk, l, rfl, h1, h2, rfl⟩

theorem bound_ok {P : Program} {w : World} {k : IntKind} {z : Int} {y : Nat} {code : BoundsCode} (h1 : 0 ≤ z) (h2 : z ≤ (y : Int)) :
    (Instr.sliceBound (.int k z) y code).run P w = .ok z.toNat w := by
  simp [Instr.sliceBound, asIntOf, h1, h2]

theorem bounds_ok {P : Program} {w : World} {isS : Bool} {n cap l h : Nat} {vl vh : Option Value} (hc : n ≤ cap)
    (hh : (vh = none ∧ h = n) ∨ ∃ k z, vh = some (.int k z) ∧ 0 ≤ z ∧ z ≤ (n : Int) ∧ h = z.toNat)
    (hl : (vl = none ∧ l = 0) ∨ ∃ k z, vl = some (.int k z) ∧ 0 ≤ z ∧ z ≤ (h : Int) ∧ l = z.toNat) :
    (Instr.sliceBounds isS n cap vl vh none).run P w = .ok (l, h, cap) w := by
  have hbo : ∀ (k : IntKind) (z : Int) (y : Nat) (code : BoundsCode), 0 ≤ z → z ≤ (y : Int) → (Instr.sliceBound (.int k z) y code).run P w = .ok z.toNat w := fun k z y code => bound_ok
  rcases hh with ⟨rfl, rfl⟩ | ⟨k, z, rfl, h1, h2, rfl⟩ <;> rcases hl with ⟨rfl, rfl⟩ | ⟨k', z', rfl, h1', h2', rfl⟩
  · simp [Instr.sliceBounds]
  · simp [Instr.sliceBounds, hbo _ _ _ _ h1' h2']
  · simp [Instr.sliceBounds, hbo k z cap _ h1 (by omega)]
  · simp [Instr.sliceBounds, hbo k z cap _ h1 (by omega), hbo _ _ _ _ h1' h2']

theorem bounds3_ok {P : Program} {w : World} {n cap l h : Nat} {vl : Option Value} {vh : Value} (hc : n ≤ cap)
    (hh : ∃ k z, vh = .int k z ∧ 0 ≤ z ∧ z ≤ (n : Int) ∧ h = z.toNat)
    (hl : (vl = none ∧ l = 0) ∨ ∃ k z, vl = some (.int k z) ∧ 0 ≤ z ∧ z ≤ (h : Int) ∧ l = z.toNat) :
    (Instr.sliceBounds true n cap vl (some vh) (some vh)).run P w = .ok (l, h, h) w := by
  have hbo : ∀ (k : IntKind) (z : Int) (y : Nat) (code : BoundsCode), 0 ≤ z → z ≤ (y : Int) → (Instr.sliceBound (.int k z) y code).run P w = .ok z.toNat w := fun k z y code => bound_ok
  obtain ⟨k, z, rfl, h1, h2, rfl⟩ := hh
  rcases hl with ⟨rfl, rfl⟩ | ⟨k', z', rfl, h1', h2', rfl⟩
  · simp [Instr.sliceBounds, hbo k z cap _ h1 (by omega), hbo k z z.toNat _ h1 (by omega)]
  · simp [Instr.sliceBounds, hbo k z cap _ h1 (by omega), hbo k z z.toNat _ h1 (by omega), hbo _ _ _ _ h1' h2']

/-- A persistent slice, cut. -/
theorem pv_cut {I : Nat → Prop} {w : World} {a : Option Addr} {n cap wd : Nat} {full : Bool} {f : Nat → List D} (hv : PV I w (.slice a n cap) (.sl full wd n f)) {l h : Nat} (hl : l ≤ h) (hh : h ≤ n)
    (m : Nat) (hm : h ≤ m) (hmc : m ≤ cap) (full' : Bool) (hf : full' = true → m = h) :
    PV I w (.slice (if m = l then a else a.map (·.add (l * wd))) (h - l) (m - l)) (.sl full' wd (h - l) fun i => f (l + i)) := by
  cases hv with
  | sl a n cap wd full f g hfull hcap hb hw hone hv =>
    refine .sl _ _ _ wd full' _ (fun i j => g (l + i) j) (fun h1 => by rw [hf h1]) (by omega) (fun hpos => ?_) (fun i hi => hw _ (by omega)) (fun i hi j hj => hone _ (by omega) j hj) (fun i hi j d hd => hv _ (by omega) j d hd)
    obtain ⟨b, off, rfl, hIb, hc⟩ := hb (by omega)
    rw [if_neg (by omega)]
    refine ⟨b, off + l * wd, by simp [add_zero_addr], hIb, fun i hi j hj => ?_⟩
    have := hc (l + i) (by omega) j hj
    rw [Nat.add_mul] at this
    rw [show off + l * wd + i * wd + j = off + (l * wd + i * wd) + j by omega]
    exact this

theorem sliceD_ok {P : Program} {c : Ctx} {t : TypeId} {x d : D} {lo hi : Option D} {bs : List Bool} (h : sliceD P c.H t x lo hi = some (d, bs)) (hb : ∀ b ∈ bs, b = true)
    {v : Value} (hv : TV c v x) {vl vh : Option Value} (hln : vl = none ↔ lo = none) (hlv : ∀ v d, vl = some v → lo = some d → TV c v d)
    (hhn : vh = none ↔ hi = none) (hhv : ∀ v d, vh = some v → hi = some d → TV c v d) :
    ∃ v', (Instr.sliceAt t v vl vh none).run P c.w = .ok v' c.w ∧ TV c v' d := by
  unfold sliceD at h
  split at h
  · rename_i e full wd n f hu
    split at h <;> try cases h
    rename_i sz hN c1 hs hh
    split at h <;> try cases h
    rename_i l c2 hl
    cases hw : Nat.beq wd sz with
    | false => simp [hw] at h
    | true =>
      simp only [hw, cond_true, Option.some.injEq, Prod.mk.injEq] at h
      obtain ⟨rfl, rfl⟩ := h
      obtain rfl := Nat.eq_of_beq_eq_true hw
      obtain ⟨h1, k1⟩ := hi_ok hh (fun b hb' => hb b (List.mem_append_left _ hb')) hhn hhv
      obtain ⟨h2, k2⟩ := lo_ok hl (fun b hb' => hb b (List.mem_append_right _ hb')) hln hlv
      simp only [TV, AV, CV] at hv
      have hv0 := hv
      cases hv with
      | sl a n cap wd full f g hfull hcap hb' hw' hone' hv' =>
        refine ⟨_, ?_, tv_pv (pv_cut hv0 h2 h1 cap (by omega) (Nat.le_refl _) false (by simp))⟩
        simp [Instr.sliceAt, Instr.slice, run_underlying hu, bounds_ok hcap k1 k2, run_sz hs]
  · rename_i e id off n hu
    split at h <;> try cases h
    rename_i wd nn f sz hN c1 ho hs hh
    split at h <;> try cases h
    rename_i l c2 hl
    cases hw : Nat.beq wd sz with
    | false => simp [hw] at h
    | true =>
      simp only [hw, cond_true, Option.some.injEq, Prod.mk.injEq] at h
      obtain ⟨rfl, rfl⟩ := h
      obtain rfl := Nat.eq_of_beq_eq_true hw
      obtain ⟨h1, k1⟩ := hi_ok hh (fun b hb' => hb b (List.mem_append_left _ hb')) hhn hhv
      obtain ⟨h2, k2⟩ := lo_ok hl (fun b hb' => hb b (List.mem_append_right _ hb')) hln hlv
      simp only [TV, AV, CV] at hv
      obtain ⟨wd', nn', f', a, cap, ho', hoff, rfl, hcap, hor⟩ := hv
      rw [ho] at ho'
      cases ho'
      refine ⟨.slice (if cap = l then a else a.map (·.add (l * wd))) (hN - l) (cap - l), ?_, ?_⟩
      · simp [Instr.sliceAt, Instr.slice, run_underlying hu, bounds_ok hcap k1 k2, run_sz hs]
      · simp only [TV, AV, CV]
        refine ⟨wd, nn, f, _, _, ho, by omega, rfl, by omega, ?_⟩
        by_cases hc : cap = l
        · exact .inl (by omega)
        · rcases hor with h0 | ⟨b, hmu, rfl, hroom⟩
          · omega
          · refine .inr ⟨b, hmu, by rw [if_neg hc]; simp [add_zero_addr, Nat.add_mul], ?_⟩
            rw [show off + l + (cap - l) = off + cap by omega]
            exact hroom
  · rename_i s hu
    split at h <;> try cases h
    rename_i hN c1 hh
    split at h <;> try cases h
    rename_i l c2 hl
    obtain ⟨h1, k1⟩ := hi_ok hh (fun b hb' => hb b (List.mem_append_left _ hb')) hhn hhv
    obtain ⟨h2, k2⟩ := lo_ok hl (fun b hb' => hb b (List.mem_append_right _ hb')) hln hlv
    obtain rfl := hv.str_inv
    refine ⟨_, ?_, tv_str _⟩
    simp [Instr.sliceAt, Instr.slice, run_underlying hu, bounds_ok (Nat.le_refl _) k1 k2]
  · cases h

theorem slice3D_ok {P : Program} {c : Ctx} {t : TypeId} {x d hi : D} {lo : Option D} {bs : List Bool} (h : slice3D P t x lo hi = some (d, bs)) (hb : ∀ b ∈ bs, b = true)
    {v : Value} (hv : TV c v x) {vl : Option Value} {vh : Value} (hln : vl = none ↔ lo = none) (hlv : ∀ v d, vl = some v → lo = some d → TV c v d) (hhv : TV c vh hi) :
    ∃ v', (Instr.sliceAt t v vl (some vh) (some vh)).run P c.w = .ok v' c.w ∧ TV c v' d := by
  unfold slice3D at h
  split at h <;> try cases h
  rename_i e full wd n f hu
  split at h <;> try cases h
  rename_i sz hN c1 hs hh
  split at h <;> try cases h
  rename_i l c2 hl
  cases hw : Nat.beq wd sz with
  | false => simp [hw] at h
  | true =>
    simp only [hw, cond_true, Option.some.injEq, Prod.mk.injEq] at h
    obtain ⟨rfl, rfl⟩ := h
    obtain rfl := Nat.eq_of_beq_eq_true hw
    obtain ⟨h1, k1⟩ := hi_ok (vh := some vh) hh (fun b hb' => hb b (List.mem_append_left _ hb')) (by simp) (fun v d e1 e2 => by cases e1; cases e2; exact hhv)
    obtain ⟨h2, k2⟩ := lo_ok hl (fun b hb' => hb b (List.mem_append_right _ hb')) hln hlv
    have k1' : ∃ k z, vh = .int k z ∧ 0 ≤ z ∧ z ≤ (n : Int) ∧ hN = z.toNat := by
      rcases k1 with ⟨k0, _⟩ | ⟨k, z, e, r⟩
      · cases k0
      · cases e; exact ⟨k, z, rfl, r⟩
    simp only [TV, AV, CV] at hv
    have hv0 := hv
    cases hv with
    | sl a n cap wd full f g hfull hcap hb' hw' hone' hv' =>
      refine ⟨_, ?_, tv_pv (pv_cut hv0 h2 h1 hN (Nat.le_refl _) (by omega) true (fun _ => rfl))⟩
      simp [Instr.sliceAt, Instr.slice, run_underlying hu, bounds3_ok hcap k1' k2, run_sz hs]
end Nv
