/- What comes in: an argument that the claim reads is a value of the typed data. -/
import Derived.Test.YtmangnohekiphaaNvGen
import Derived.ChangeArms
import Derived.ChangeOld
import Derived.DataReads
namespace Nv
open Go Go.RowKit

/-- Cells and what they hold. -/
inductive PVs (I : Nat → Prop) (w : World) : List Value → List D → Prop
  | nil : PVs I w [] []
  | cons {v : Value} {d : D} {vs : List Value} {ds : List D} (h : PV I w v d) (h1 : v.oneCell' = true) (t : PVs I w vs ds) : PVs I w (v :: vs) (d :: ds)
theorem PVs.app {I : Nat → Prop} {w : World} {vs us : List Value} {ds es : List D} (h : PVs I w vs ds) (k : PVs I w us es) : PVs I w (vs ++ us) (ds ++ es) := by
  induction h with
  | nil => exact k
  | cons h h1 t ih => exact .cons h h1 ih
theorem PVs.len {I : Nat → Prop} {w : World} {vs : List Value} {ds : List D} (h : PVs I w vs ds) : vs.length = ds.length := by
  induction h with
  | nil => rfl
  | cons h h1 t ih => simp [ih]
theorem PVs.get {I : Nat → Prop} {w : World} {vs : List Value} {ds : List D} (h : PVs I w vs ds) : ∀ (i : Nat) v d, vs[i]? = some v → ds[i]? = some d → PV I w v d ∧ v.oneCell' = true := by
  induction h with
  | nil => intro i v d h1 _; simp at h1
  | cons h h1 t ih =>
    intro i v d h2 h3
    cases i with
    | zero => simp at h2 h3; subst h2; subst h3; exact ⟨h, h1⟩
    | succ i => exact ih i v d (by simpa using h2) (by simpa using h3)
theorem PVs.cut {I : Nat → Prop} {w : World} {cs : List Value} {off sz : Nat} {ds es : List D} (h : PVs I w ((cs.drop off).take sz) ds) (k : PVs I w (cs.drop (off + sz)) es) : PVs I w (cs.drop off) (ds ++ es) := by
  have := h.app k
  rw [← List.drop_drop, List.take_append_drop] at this
  exact this
theorem PVs.fin {I : Nat → Prop} {w : World} {cs : List Value} {n : Nat} (h : cs.length = n) : PVs I w (cs.drop n) [] := by
  rw [List.drop_eq_nil_of_le (by omega)]
  exact .nil

section
variable {H : Type} (enc : TypeId × Value → H) (P : Program) (w : World)
def Opens {α : Type} (t : TypeId) (c : α → List D) (W : α → Prop) : Prop :=
  ∀ fuel cs x, DataW.trod enc P w 0 (fun _ => true) true fuel t cs = some x → ∃ a, W a ∧ PVs (fun b => b < w.heap.size) w cs (c a)
end
section
variable {H : Type} {enc : TypeId × Value → H} {P : Program} {w : World} {t : TypeId}
theorem opens_int {k : IntKind} (hu : P.underlying t = some (.int k)) : Opens enc P w t (ci k) (fun n => (Lit.int k n).wf = true) := by
  intro fuel cs x h
  obtain ⟨n, rfl, _, hw⟩ := DataW.trod_int hu h
  exact ⟨n, hw, .cons (.int k n) rfl .nil⟩
theorem opens_str (hu : P.underlying t = some .string) : Opens enc P w t cs (fun s => s.size ≤ maxLen) := by
  intro fuel cs x h
  obtain ⟨s, rfl, _, hw⟩ := DataW.trod_string hu h
  exact ⟨s, hw, .cons (.str s) rfl .nil⟩
theorem opens_bool (hu : P.underlying t = some .bool) : Opens enc P w t cb (fun _ => True) := by
  intro fuel cs x h
  obtain ⟨b, rfl, _⟩ := DataW.trod_bool hu h
  exact ⟨b, trivial, .cons (.bool b) rfl .nil⟩
theorem opens_slice {α : Type} [Inhabited α] {e : TypeId} {wd : Nat} {c : α → List D} {W : α → Prop} (hu : P.underlying t = some (.slice e)) (hwd : P.cellsOf e = wd) (h0 : 0 < wd) (he : Opens enc P w e c W) :
    Opens enc P w t (cl wd c) (fun l => l.length ≤ maxLen ∧ ∀ x ∈ l, W x) := by
  intro fuel cs x h
  rcases DataW.trod_slice hu h with ⟨rfl, _⟩ | ⟨a, len, cap, elems, rest, n, _, rfl, _, _, hl, hm, hlen, hel, _, _⟩
  · exact ⟨[], ⟨Nat.zero_le _, fun x hx => by simp at hx⟩, .cons (.sl none 0 0 wd false _ (fun _ _ => undef) (fun h => by cases h) (Nat.le_refl _) (fun h => by omega) (fun i hi => by simp at hi) (fun i hi => by simp at hi) (fun i hi => by simp at hi)) rfl .nil⟩
  · rw [hwd] at hel
    have key : ∀ i, i < len → ∃ y, W y ∧ ∃ cs', w.cells? 0 (a.add (i * wd)) wd = some cs' ∧ PVs (fun b => b < w.heap.size) w cs' (c y) := fun i hi => by
      have h1 := hel i hi
      have h2 : elems[i]? = some elems[i] := by simp
      rw [h2] at h1
      obtain ⟨cs', h3, h4⟩ := Option.bind_eq_some_iff.1 h1
      obtain ⟨y, h5, h6⟩ := he _ _ _ h4
      exact ⟨y, h5, cs', h3, h6⟩
    let f : Nat → α := fun i => if h : i < len then (key i h).choose else default
    have hf : ∀ i, i < len → W (f i) ∧ ∃ cs', w.cells? 0 (a.add (i * wd)) wd = some cs' ∧ PVs (fun b => b < w.heap.size) w cs' (c (f i)) := fun i hi => by
      simp only [f, dif_pos hi]
      exact (key i hi).choose_spec
    let l : List α := (List.range len).map f
    have hll : l.length = len := by simp [l]
    have hget : ∀ i, i < len → l.getD i default = f i := fun i hi => by simp [l, hi]
    -- the address has no spot
    have cell : ∀ i, i < len → ∀ j, j < wd → ∃ cs', w.cells? 0 (a.add (i * wd)) wd = some cs' ∧ w.cell? ((a.add (i * wd)).add j) = cs'[j]? ∧ cs'.length = wd ∧ PVs (fun b => b < w.heap.size) w cs' (c (f i)) := fun i hi j hj => by
      obtain ⟨_, cs', h1, h2⟩ := hf i hi
      obtain ⟨_, h4, h5⟩ := World.cells?_some h1
      exact ⟨cs', h1, h5 j hj, h4, h2⟩
    refine ⟨l, ⟨by omega, fun x hx => ?_⟩, .cons ?_ rfl .nil⟩
    · simp only [l, List.mem_map, List.mem_range] at hx
      obtain ⟨i, hi, rfl⟩ := hx
      exact (hf i hi).1
    · have spot : 0 < len → a.spot = none := fun hn => by
        obtain ⟨cs', h1, h2, h3, _⟩ := cell 0 hn 0 h0
        simp only [Nat.zero_mul, Addr.add, if_true] at h2
        have h6 : cs'[0]? = some cs'[0] := by simp
        rw [h6] at h2
        unfold World.cell? at h2
        cases hs : a.spot with
        | none => rfl
        | some q =>
          rw [hs] at h2
          split at h2 <;> simp at h2
      have plain : ∀ i, i < len → ∀ j, (a.add (i * wd)).add j = ⟨a.block, a.off + i * wd + j, none⟩ := fun i hi j => by
        have hs := spot (by omega)
        obtain ⟨b, o, s⟩ := a
        simp only at hs
        subst hs
        rw [add_zero_addr, add_zero_addr]
      have main : PV (fun b => b < w.heap.size) w (.slice (some a) len cap) (.sl false wd len fun i => c (l.getD i default)) := by
        refine .sl (some a) len cap wd false _ (fun i j => (w.cell? ⟨a.block, a.off + i * wd + j, none⟩).getD undef) (fun h => by cases h) hl (fun hn => ?_) (fun i hi => ?_) (fun i hi j hj => ?_) (fun i hi j d hd => ?_)
        · refine ⟨a.block, a.off, ?_, ?_, fun i hi j hj => ?_⟩
          · have hs := spot hn
            obtain ⟨b, o, s⟩ := a
            simp only at hs
            subst hs
            rfl
          · obtain ⟨cs', h1, _⟩ := cell 0 hn 0 h0
            have := World.cells?_block h1 h0
            simpa [Addr.add] using this
          · obtain ⟨cs', _, h2, h3, _⟩ := cell i hi j hj
            rw [plain i hi j] at h2
            have h6 : cs'[j]? = some cs'[j] := by simp
            rw [h2, h6]
            rfl
        · obtain ⟨cs', _, _, h3, h4⟩ := cell i hi 0 h0
          show (c (l.getD i default)).length = wd
          rw [hget i hi, ← h4.len, h3]
        · obtain ⟨cs', _, h2, h3, h4⟩ := cell i hi j hj
          rw [plain i hi j] at h2
          have h6 : cs'[j]? = some cs'[j] := by simp
          have h7 : j < (c (f i)).length := by rw [← h4.len, h3]; exact hj
          show ((w.cell? _).getD undef).oneCell' = true
          rw [h2, h6]
          exact (h4.get j _ (c (f i))[j] h6 (by simp)).2
        · have hd : (c (l.getD i default))[j]? = some d := hd
          rw [hget i hi] at hd
          have hj : j < wd := by
            obtain ⟨cs', _, _, h3, h4⟩ := cell i hi 0 h0
            rw [← h3, h4.len]
            exact (List.getElem?_eq_some_iff.1 hd).1
          obtain ⟨cs', _, h2, h3, h4⟩ := cell i hi j hj
          rw [plain i hi j] at h2
          have h6 : cs'[j]? = some cs'[j] := by simp
          show PV _ _ ((w.cell? _).getD undef) d
          rw [h2, h6]
          exact (h4.get j _ d h6 hd).1
      unfold sL
      rw [hll]
      exact main

/-- The struct's fields, one by one. -/
theorem fields_of {fs : Array Field} (hu : P.underlying t = some (.struct fs)) {fuel : Nat} {cs : List Value} {x : DataW H × List MemPlace} (h : DataW.trod enc P w 0 (fun _ => true) true fuel t cs = some x) :
    cs.length = P.cellsOf t ∧ ∃ n, ∀ (i : Nat) (f : Field), fs[i]? = some f → ∃ y, DataW.trod enc P w 0 (fun _ => true) true n f.type ((cs.drop f.offset).take (P.cellsOf f.type)) = some y := by
  obtain ⟨xs, n, _, _, hl, hxs, hf⟩ := DataW.trod_struct hu h
  refine ⟨hl, n, fun i f hi => ?_⟩
  have hlt : i < xs.length := by rw [hxs]; exact (Array.getElem?_eq_some_iff.1 hi).1
  exact ⟨xs[i], by rw [hf i f hi]; simp [hlt]⟩
theorem field_at {fs : Array Field} {n : Nat} {cs : List Value} (h : ∀ (i : Nat) (f : Field), fs[i]? = some f → ∃ y, DataW.trod enc P w 0 (fun _ => true) true n f.type ((cs.drop f.offset).take (P.cellsOf f.type)) = some y)
    (i : Nat) {f : Field} (hf : fs[i]? = some f) {off sz : Nat} {ft : TypeId} (hx : f.offset = off ∧ P.cellsOf f.type = sz ∧ f.type = ft) {α : Type} {c : α → List D} {W : α → Prop} (ho : Opens enc P w ft c W) :
    ∃ a, W a ∧ PVs (fun b => b < w.heap.size) w ((cs.drop off).take sz) (c a) := by
  obtain ⟨rfl, rfl, rfl⟩ := hx
  obtain ⟨y, hy⟩ := h i f hf
  exact ho _ _ _ hy

/-- An argument of one cell. -/
theorem arg_one {α : Type} {c : α → List D} {dd : α → D} {W : α → Prop} (ho : Opens enc P w t c W) (hc : ∀ a, c a = [dd a]) {v : Value} {d : DataW H} {ps : List MemPlace} (h : DataW.Trod enc P w 0 (fun _ => true) true t v d ps)
    (hv : ∀ cs, v ≠ .agg cs) : ∃ a, W a ∧ AV (NoCtx (fun b => b < w.heap.size) w) v (dd a) := by
  obtain ⟨fuel, h⟩ := h
  obtain ⟨a, h1, h2⟩ := ho _ _ _ h
  refine ⟨a, h1, ?_⟩
  have e : v.cells.toList = [v] := by
    cases v <;> first | rfl | exact absurd rfl (hv _)
  rw [e, hc] at h2
  cases h2 with
  | cons h h1 t => exact av_of_cv (cv_pv h)
/-- An argument that is a struct. -/
theorem arg_agg {α : Type} {c : α → List D} {W : α → Prop} (ho : Opens enc P w t c W) {v : Value} {d : DataW H} {ps : List MemPlace} (h : DataW.Trod enc P w 0 (fun _ => true) true t v d ps)
    (hv : ∃ cs, v = .agg cs) : ∃ a, W a ∧ AV (NoCtx (fun b => b < w.heap.size) w) v (.agg (c a)) := by
  obtain ⟨cs, rfl⟩ := hv
  obtain ⟨fuel, h⟩ := h
  obtain ⟨a, h1, h2⟩ := ho _ _ _ h
  refine ⟨a, h1, cs, rfl, ?_, fun i v d h3 h4 => cv_pv (h2.get i v d (by simpa [Value.cells] using h3) h4).1⟩
  have := h2.len
  simpa [Value.cells] using this
end
theorem vs_av_nil {c : Ctx} : Vs (AV c) (#[] : Array Value) [] := ⟨rfl, fun i v d h _ => by simp at h⟩
theorem vs_av_cons {c : Ctx} {v : Value} {d : D} {vs : List Value} {ds : List D} (h : AV c v d) (k : Vs (AV c) vs.toArray ds) : Vs (AV c) (v :: vs).toArray (d :: ds) := by
  refine ⟨by simpa using k.1, fun i u e h1 h2 => ?_⟩
  cases i with
  | zero => simp at h1 h2; subst h1; subst h2; exact h
  | succ i => exact k.2 i u e (by simpa using h1) (by simpa using h2)
/-- The law's call. -/
theorem law_calls {P : Program} {f : FuncId} {ds : List D} (hF : Fn P f ds (.pure (.bool true))) {w : World} {vs : Array Value} (hvs : Vs (AV (NoCtx (fun b => b < w.heap.size) w)) vs ds) :
    Calls P f vs w fun e w' => e = .returned (.bool true) ∧ Below w.heap.size w w' := by
  refine (hF (fun b => b < w.heap.size) w vs (fun _ h => h) hvs).mono ?_
  rintro e w' ⟨v, I1, rfl, hb, _, hr⟩
  have := TV.bool_inv (show TV (NoCtx I1 w') v (.bool true) from hr)
  subst this
  exact ⟨rfl, hb⟩
end Nv
