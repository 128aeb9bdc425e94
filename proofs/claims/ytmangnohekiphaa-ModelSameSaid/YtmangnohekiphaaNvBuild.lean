/- Zero values, struct literals, slice literals, on abstract values. -/
import Derived.Test.YtmangnohekiphaaNvPure4
namespace Nv
open Go Go.RowKit

def cellTys (P : Program) : Nat → TypeId → List TypeId
  | 0, t => [t]
  | n + 1, t => match P.underlying t with
    | some (.struct fs) => fs.toList.flatMap fun f => cellTys P n f.type
    | some (.array k e) => (List.replicate k (cellTys P n e)).flatten
    | _ => [t]

def zipAdj (P : Program) : List TypeId → List D → List D
  | _, [] => []
  | [], d :: ds => d :: ds
  | t :: ts, d :: ds => adj P t d :: zipAdj P ts ds

theorem cv_adj {P : Program} {t : TypeId} {c : Ctx} {v : Value} {d : D} (h : CV c v d) : CV c v (adj P t d) := by
  unfold adj
  split
  · split
    · simp only [CV] at h ⊢; exact pv_nils h _ _ _
    · exact h
  · exact h

theorem zipAdj_len (P : Program) : ∀ ts ds, (zipAdj P ts ds).length = ds.length
  | _, [] => by simp [zipAdj]
  | [], _ :: _ => by simp [zipAdj]
  | _ :: ts, _ :: ds => by simp [zipAdj, zipAdj_len P ts ds]
theorem zipAdj_get (P : Program) {c : Ctx} : ∀ ts ds (i : Nat) (d : D) (v : Value), (zipAdj P ts ds)[i]? = some d → (∀ d', ds[i]? = some d' → CV c v d') → CV c v d
  | _, [], i, d, v, h, _ => by simp [zipAdj] at h
  | [], x :: ds, i, d, v, h, k => by simp only [zipAdj] at h; exact k d h
  | t :: ts, x :: ds, 0, d, v, h, k => by
    simp only [zipAdj, List.getElem?_cons_zero, Option.some.injEq] at h
    subst h
    exact cv_adj (k x rfl)
  | t :: ts, x :: ds, i + 1, d, v, h, k => by
    simp only [zipAdj, List.getElem?_cons_succ] at h
    exact zipAdj_get P ts ds i d v h (by simpa using k)

def zeroD (P : Program) (t : TypeId) : Option (List D) :=
  ((P.info? t).bind (·.zero)).map fun z => zipAdj P (cellTys P 30 t) (z.cells.toList.map dvc)
theorem zeroD_ok {P : Program} {t : TypeId} {cs : List D} (h : zeroD P t = some cs) (c : Ctx) :
    ∃ z, (zeroValue t).run P c.w = .ok z c.w ∧ Vs (CV c) z.cells cs := by
  unfold zeroD at h
  obtain ⟨z, hz, rfl⟩ := Option.map_eq_some_iff.1 h
  obtain ⟨i, hi, hz⟩ := Option.bind_eq_some_iff.1 hz
  refine ⟨z, by simp [zeroValue, typeInfo, hi, hz], by simp [zipAdj_len], fun i v d h1 h2 => zipAdj_get P _ _ i d v h2 fun d' hd' => ?_⟩
  simp only [List.getElem?_map, Array.getElem?_toList, h1, Option.map_some, Option.some.injEq] at hd'
  subst hd'
  exact cv_dvc c v

def cellsOfD : D → Option (List D)
  | .agg cs => some cs
  | .int k n => some [.int k n]
  | .bool b => some [.bool b]
  | .str s => some [.str s]
  | .nilp => some [.nilp]
  | .nils => some [.nils]
  | .sl full wd n f => some [.sl full wd n f]
  | .pp cs => some [.pp cs]
  | .ref id off => some [.ref id off]
  | .eref id i off => some [.eref id i off]
  | .asl id off len => some [.asl id off len]
  | .fn f [] => some [.fn f []]
  | _ => none

theorem vs_one {R : Value → D → Prop} {v : Value} {d : D} (h : R v d) : Vs R #[v] [d] := by
  refine ⟨rfl, fun i v' d' h1 h2 => ?_⟩
  cases i with
  | zero => simp at h1 h2; subst h1; subst h2; exact h
  | succ i => simp at h2

theorem cellsOfD_ok {c : Ctx} {d : D} {cs : List D} (h : cellsOfD d = some cs) {v : Value} (hv : TV c v d) : Vs (CV c) v.cells cs := by
  unfold cellsOfD at h
  split at h <;> simp only [Option.some.injEq, reduceCtorEq] at h <;> subst h
  · obtain ⟨vs, rfl, h2⟩ := hv; exact h2
  · obtain rfl := hv.int_inv; exact vs_one hv
  · obtain rfl := hv.bool_inv; exact vs_one hv
  · obtain rfl := hv.str_inv; exact vs_one hv
  · obtain rfl := hv.nilp_inv; exact vs_one hv
  · have h1 := hv; simp only [TV, AV, CV] at h1; cases h1; exact vs_one hv
  · have h1 := hv; simp only [TV, AV, CV] at h1; cases h1; exact vs_one hv
  · have h1 := hv; simp only [TV, AV, CV] at h1; cases h1; exact vs_one hv
  · have h1 := hv; simp only [TV, AV, CV] at h1; obtain ⟨b, _, rfl⟩ := h1; exact vs_one hv
  · have h1 := hv; simp only [TV, AV, CV] at h1; obtain ⟨b, _, _, _, _, _, _, rfl⟩ := h1; exact vs_one hv
  · have h1 := hv; simp only [TV, AV, CV] at h1; obtain ⟨_, _, _, _, _, _, _, rfl, _⟩ := h1; exact vs_one hv
  · obtain ⟨vs, rfl, hs, _⟩ := hv
    have : vs = #[] := Array.eq_empty_of_size_eq_zero hs
    subst this
    exact vs_one (.fn _)

theorem fold_set (off : Nat) : ∀ (l : List Value) (k : Nat) (cs : Array Value), off + k + l.length ≤ cs.size →
    ((l.zipIdx k).foldl (fun (cs : Array Value) p => cs.setIfInBounds (off + p.2) p.1) cs).size = cs.size ∧
    ∀ m, ((l.zipIdx k).foldl (fun (cs : Array Value) p => cs.setIfInBounds (off + p.2) p.1) cs)[m]? = if off + k ≤ m ∧ m < off + k + l.length then l[m - (off + k)]? else cs[m]?
  | [], k, cs, _ => ⟨by simp, fun m => by simp; omega⟩
  | x :: l, k, cs, h => by
    simp only [List.length_cons] at h
    have ih := fold_set off l (k + 1) (cs.setIfInBounds (off + k) x) (by simp; omega)
    simp only [List.zipIdx_cons, List.foldl_cons]
    refine ⟨by rw [ih.1]; simp, fun m => ?_⟩
    rw [ih.2 m]
    by_cases h1 : m = off + k
    · subst h1
      rw [if_neg (by omega), if_pos (by simp)]
      have : off + k < cs.size := by omega
      simp [this]
    · by_cases h2 : off + k ≤ m ∧ m < off + k + (x :: l).length
      · rw [if_pos h2, if_pos (by simp at h2; omega)]
        obtain ⟨j, hj⟩ : ∃ j, m - (off + k) = j + 1 := ⟨m - (off + k) - 1, by omega⟩
        rw [hj, List.getElem?_cons_succ, show m - (off + (k + 1)) = j by omega]
      · rw [if_neg h2, if_neg (by simp at h2; omega), Array.getElem?_setIfInBounds_ne (by omega)]

def fillD (place : Nat → Option (Nat × Nat)) (cells : List D) : List (Nat × D) → Option (List D)
  | [] => some cells
  | (i, d) :: rest => match place i, cellsOfD d with
    | some (off, size), some cs => bif Nat.beq cs.length size && Nat.ble (off + size) cells.length then fillD place (cells.take off ++ (cs ++ cells.drop (off + size))) rest else none
    | _, _ => none

theorem vs_splice {c : Ctx} {vs us : Array Value} {cells cs : List D} {off : Nat} (hv : Vs (CV c) vs cells) (hu : Vs (CV c) us cs) (h : off + cs.length ≤ cells.length) :
    Vs (CV c) (us.zipIdx.foldl (fun cs (x, j) => cs.setIfInBounds (off + j) x) vs) (cells.take off ++ (cs ++ cells.drop (off + cs.length))) := by
  have e : us.zipIdx.foldl (fun (cs : Array Value) (x, j) => cs.setIfInBounds (off + j) x) vs = (us.toList.zipIdx 0).foldl (fun (cs : Array Value) p => cs.setIfInBounds (off + p.2) p.1) vs := by
    rw [← Array.foldl_toList, Array.toList_zipIdx]
  obtain ⟨h1, h2⟩ := fold_set off us.toList 0 vs (by simp [hu.1, hv.1]; omega)
  rw [e]
  refine ⟨by rw [h1, hv.1]; simp; omega, fun i v d hi hd => ?_⟩
  rw [h2] at hi
  simp only [Nat.add_zero, Array.length_toList, hu.1] at hi
  by_cases hlt : i < off
  · rw [if_neg (by omega)] at hi
    rw [List.getElem?_append_left (by simp; omega), List.getElem?_take_of_lt hlt] at hd
    exact hv.2 i v d hi hd
  · rw [List.getElem?_append_right (by simp; omega)] at hd
    simp only [List.length_take, Nat.min_eq_left (show off ≤ cells.length by omega)] at hd
    by_cases hlt2 : i < off + cs.length
    · rw [if_pos (by omega)] at hi
      rw [List.getElem?_append_left (by omega)] at hd
      exact hu.2 (i - off) v d (by simpa using hi) hd
    · rw [if_neg (by omega)] at hi
      rw [List.getElem?_append_right (by omega), List.getElem?_drop] at hd
      rw [show off + cs.length + (i - off - cs.length) = i by omega] at hd
      exact hv.2 i v d hi hd

theorem fill_ok {c : Ctx} (place : Nat → Option (Nat × Nat)) (ρc : Operand → Value) (ρd : Operand → D) : ∀ (ps : List (Nat × Operand)) (cells : List D) (vs : Array Value) (out : List D),
    (∀ p ∈ ps, TV c (ρc p.2) (ρd p.2)) → Vs (CV c) vs cells → fillD place cells (ps.map fun p => (p.1, ρd p.2)) = some out →
    ∃ vs', Instr.fill place vs (ps.map fun p => (p.1, ρc p.2)) = some vs' ∧ Vs (CV c) vs' out
  | [], cells, vs, out, _, hv, h => by
    simp only [List.map_nil, fillD, Option.some.injEq] at h
    subst h
    exact ⟨vs, by simp [Instr.fill], hv⟩
  | (i, x) :: ps, cells, vs, out, hp, hv, h => by
    simp only [List.map_cons, fillD] at h
    split at h <;> try cases h
    rename_i off size cs hpl hcs
    cases hc : (Nat.beq cs.length size && Nat.ble (off + size) cells.length) with
    | false => rw [hc] at h; cases h
    | true =>
      simp only [hc, cond_true] at h
      simp at hc
      obtain ⟨rfl, hle⟩ := hc
      have hu := cellsOfD_ok hcs (hp (i, x) (by simp))
      obtain ⟨vs', h1, h2⟩ := fill_ok place ρc ρd ps _ _ out (fun p hp' => hp p (by simp [hp'])) (vs_splice hv hu hle) h
      refine ⟨vs', ?_, h2⟩
      simp only [List.map_cons, Instr.fill, hpl]
      have hs : (ρc x).cells.size = cs.length := hu.1
      have : ¬ ((ρc x).cells.size ≠ cs.length || decide (off + (ρc x).cells.size > vs.size)) = true := by
        simp [hs, hv.1]; omega
      rw [if_neg this]
      exact h1

/-- 'T{..}' -/
def placesOf (P : Program) (fs : List Field) : Option (List (Nat × Nat)) := fs.mapM fun f => (szO P f.type).map fun n => (f.offset, n)
def buildD (P : Program) (t : TypeId) (ps : List (Nat × D)) : Option D :=
  match P.underlying t, zeroD P t with
  | some (.struct fs), some zs => match placesOf P fs.toList with
    | some pl => (fillD (fun i => pl[i]?) zs ps).map .agg
    | none => none
  | some (.array _ e), some zs => match szO P e with
    | some size => (fillD (fun i => some (i * size, size)) zs ps).map .agg
    | none => none
  | _, _ => none

theorem places_run {P : Program} {w : World} : ∀ (fs : List Field) (pl : List (Nat × Nat)), placesOf P fs = some pl →
    (fs.mapM fun f => (do pure (f.offset, ← Go.sizeOf f.type) : Sem (Nat × Nat))).run P w = .ok pl w
  | [], pl, h => by simp [placesOf] at h; subst h; simp
  | f :: fs, pl, h => by
    unfold placesOf at h
    rw [List.mapM_cons] at h
    obtain ⟨x, hx, h⟩ := Option.bind_eq_some_iff.1 h
    obtain ⟨n, hn, rfl⟩ := Option.map_eq_some_iff.1 hx
    obtain ⟨r, hr, h⟩ := Option.bind_eq_some_iff.1 h
    cases h
    have := places_run (w := w) fs r hr
    rw [List.mapM_cons]
    simp only [Sem.run_bind, run_sz hn, Result.andThen_ok, Sem.run_pure]
    rw [this]
    rfl

theorem buildD_ok {P : Program} {c : Ctx} {t : TypeId} {ps : Array (Nat × Operand)} {ρc : Operand → Value} {ρd : Operand → D} (hρ : ∀ p ∈ ps.toList, TV c (ρc p.2) (ρd p.2)) {d : D}
    (h : buildD P t (ps.toList.map fun p => (p.1, ρd p.2)) = some d) : ∃ v, (Instr.build t (ps.map fun p => (p.1, ρc p.2))).run P c.w = .ok v c.w ∧ TV c v d := by
  unfold buildD at h
  split at h
  · rename_i fs zs hu hz
    split at h <;> try cases h
    rename_i pl hpl
    obtain ⟨out, ho, rfl⟩ := Option.map_eq_some_iff.1 h
    obtain ⟨z, hz1, hz2⟩ := zeroD_ok hz c
    obtain ⟨vs', h1, h2⟩ := fill_ok (fun i => pl[i]?) ρc ρd ps.toList zs z.cells out hρ hz2 ho
    refine ⟨.agg vs', ?_, vs', rfl, h2⟩
    have hp := places_run (w := c.w) fs.toList pl hpl
    simp only [Instr.build, Sem.run_bind, hz1, Result.andThen_ok, run_underlying hu]
    rw [Array.mapM_eq_mapM_toList]
    simp only [Sem.run_map, hp, Result.andThen_ok, Array.toList_map]
    have e : (fun (x : Nat) => pl.toArray[x]?) = fun (i : Nat) => pl[i]? := by funext i; simp
    rw [e, h1]
    rfl
  · rename_i n e zs hu hz
    split at h <;> try cases h
    rename_i size hs
    obtain ⟨out, ho, rfl⟩ := Option.map_eq_some_iff.1 h
    obtain ⟨z, hz1, hz2⟩ := zeroD_ok hz c
    obtain ⟨vs', h1, h2⟩ := fill_ok (fun i => some (i * size, size)) ρc ρd ps.toList zs z.cells out hρ hz2 ho
    refine ⟨.agg vs', ?_, vs', rfl, h2⟩
    simp only [Instr.build, Sem.run_bind, hz1, Result.andThen_ok, run_underlying hu, run_sz hs, Array.toList_map, h1, Sem.run_pure]
  · cases h
end Nv
