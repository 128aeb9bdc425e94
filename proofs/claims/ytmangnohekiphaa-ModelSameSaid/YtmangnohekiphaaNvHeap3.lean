/- make, append. -/
import Derived.Test.YtmangnohekiphaaNvHeap2
namespace Nv
open Go Go.RowKit

/-! an object without a block -/
def Ctx.made0 (c : Ctx) (o : Ob) : Ctx := { c with H := c.H ++ [o] }
section
variable {F : Fr} {c : Ctx}
theorem made0_H (o o' : Ob) {id : Nat} (h : c.H[id]? = some o') : (c.made0 o).H[id]? = some o' := by
  have := (List.getElem?_eq_some_iff.1 h).1
  simp only [Ctx.made0]
  rw [List.getElem?_append_left this]
  exact h
theorem made0_cv (o : Ob) {v : Value} {d : D} (h : CV c v d) : CV (c.made0 o) v d := by
  cases d <;> simp only [CV] at h ⊢ <;> try exact h
  · obtain ⟨b, wd, n, f, hb, hH, hi, hv⟩ := h; exact ⟨b, wd, n, f, hb, made0_H o _ hH, hi, hv⟩
  · obtain ⟨wd, n, f, a, cap, hH, h2⟩ := h
    exact ⟨wd, n, f, a, cap, made0_H o _ hH, h2⟩
theorem made0_av (o : Ob) {v : Value} {d : D} (h : AV c v d) : AV (c.made0 o) v d := by
  cases d <;> simp only [AV] at h ⊢ <;> try exact made0_cv o h
  · obtain ⟨vs, h1, h2⟩ := h; exact ⟨vs, h1, h2.mono fun _ _ => made0_cv o⟩
  · obtain ⟨vs, h1, h2⟩ := h; exact ⟨vs, h1, h2.mono fun _ _ => made0_cv o⟩
theorem made0_tv (o : Ob) {v : Value} {d : D} (h : TV c v d) : TV (c.made0 o) v d := by
  cases d <;> simp only [TV] at h ⊢ <;> try exact made0_av o h
  obtain ⟨vs, h1, h2⟩ := h; exact ⟨vs, h1, h2.mono fun _ _ => made0_av o⟩
theorem made0_inv (hI : Inv F c) (wd : Nat) (f : Nat → List D) : Inv F (c.made0 (.arr wd 0 f)) := by
  refine ⟨hI.below, hI.imm, hI.loc, hI.inj, fun id o' h => ?_, fun id hid => hI.dom id (by simp [Ctx.made0] at hid; omega), hI.lent, fun hl => made0_H _ _ (hI.mark hl)⟩
  by_cases hid : id = c.H.length
  · subst hid
    have : o' = .arr wd 0 f := by simp [Ctx.made0] at h; exact h.symm
    subst this
    exact ⟨fun i hi => by omega, .inl ⟨hI.dom _ (Nat.le_refl _), rfl⟩⟩
  · have hH : c.H[id]? = some o' := by
      have hlt := (List.getElem?_eq_some_iff.1 h).1
      simp only [Ctx.made0, List.length_append, List.length_singleton] at hlt
      simp only [Ctx.made0] at h
      rw [List.getElem?_append_left (by omega)] at h
      exact h
    have hv := hI.obj id o' hH
    cases o' with
    | box cells => obtain ⟨b, cs', T', hb, h1, h2⟩ := hv; exact ⟨b, cs', T', hb, h1, h2.mono fun _ _ => made0_cv _⟩
    | arr wd n f => exact hv
    | gone => exact hv
end

/-! an object whose slice has moved on -/
def purgeO (id : Nat) : Ob → Ob
  | .box cells => .box (cells.map fun d => bif mc id d then .any else d)
  | o => o
def Ctx.redo (c : Ctx) (id : Nat) (o : Ob) (nb : Option Nat) (w' : World) : Ctx :=
  { I := c.I, mu := fun i => if i = id then nb else c.mu i, H := (c.H.set id o).map (purgeO id), w := w' }

structure Redo (c : Ctx) (id : Nat) (nb : Option Nat) (w' : World) : Prop where
  os : w'.os = c.w.os
  tape : w'.tape = c.w.tape
  output : w'.output = c.w.output
  size : c.w.heap.size ≤ w'.heap.size
  blk : ∀ k, k < c.w.heap.size → c.mu id ≠ some k → w'.heap[k]? = c.w.heap[k]?
  nb : ∀ b, nb = some b → b < w'.heap.size ∧ (c.mu id = some b ∨ c.w.heap.size ≤ b)

section
variable {F : Fr} {c : Ctx} {id : Nat} {nb : Option Nat} {w' : World} {o : Ob}
theorem redo_pv (hI : Inv F c) (hr : Redo c id nb w') {v : Value} {d : D} (h : PV c.I c.w v d) : PV c.I w' v d :=
  h.mono (fun _ h => h) fun b hb => hr.blk b (hI.imm b hb).1 fun e => (hI.loc id b e).2.2 hb
theorem redo_H {i : Nat} (hne : i ≠ id) {o2 : Ob} (h : c.H[i]? = some o2) : (c.redo id o nb w').H[i]? = some (purgeO id o2) := by
  simp only [Ctx.redo, List.getElem?_map, List.getElem?_set_ne (Ne.symm hne), h, Option.map_some]
theorem redo_cv (hI : Inv F c) (hr : Redo c id nb w') {v : Value} {d : D} (h : CV c v d) (hm : mc id d = false) : CV (c.redo id o nb w') v d := by
  cases d <;> simp only [CV] at h ⊢ <;> try exact redo_pv hI hr h
  · rename_i i off
    have hne : i ≠ id := Nat.ne_of_beq_eq_false hm
    obtain ⟨b, hb, hv⟩ := h
    exact ⟨b, by simp [Ctx.redo, hne, hb], hv⟩
  · rename_i i j off
    have hne : i ≠ id := Nat.ne_of_beq_eq_false hm
    obtain ⟨b, wd, n, f, hb, hH, hi, hv⟩ := h
    exact ⟨b, wd, n, f, by simp [Ctx.redo, hne, hb], redo_H hne hH, hi, hv⟩
  · rename_i i off len
    have hne : i ≠ id := Nat.ne_of_beq_eq_false hm
    obtain ⟨wd, n, f, a, cap, hH, h2, h3, h4, h5⟩ := h
    refine ⟨wd, n, f, a, cap, redo_H hne hH, h2, h3, h4, h5.imp (fun x => x) ?_⟩
    rintro ⟨b, hb, ha, cs, T, hh, hs⟩
    exact ⟨b, by simp [Ctx.redo, hne, hb], ha, cs, T, by
      show w'.heap[b]? = _
      rw [hr.blk b (hI.loc i b hb).2.1 fun e => hne (hI.inj i id b hb e)]
      exact hh, hs⟩
theorem vs_purge {R R' : Value → D → Prop} {q : D → Bool} {vs : Array Value} {ds : List D} (h : ∀ v d, R v d → q d = false → R' v d) (k : Vs R vs ds) (hq : ds.any q = false) : Vs R' vs ds :=
  ⟨k.1, fun i v d h1 h2 => h v d (k.2 i v d h1 h2) (by
    have := List.any_eq_false.1 hq d (List.mem_of_getElem? h2)
    simpa using this)⟩
theorem redo_av (hI : Inv F c) (hr : Redo c id nb w') {v : Value} {d : D} (h : AV c v d) (hm : ma id d = false) : AV (c.redo id o nb w') v d := by
  cases d <;> simp only [AV] at h ⊢ <;> try exact redo_cv hI hr h hm
  · obtain ⟨vs, h1, h2⟩ := h; exact ⟨vs, h1, vs_purge (fun v d h hq => redo_cv hI hr h hq) h2 hm⟩
  · obtain ⟨vs, h1, h2⟩ := h; exact ⟨vs, h1, vs_purge (fun v d h hq => redo_cv hI hr h hq) h2 hm⟩
theorem redo_tv (hI : Inv F c) (hr : Redo c id nb w') {v : Value} {d : D} (h : TV c v d) : TV (c.redo id o nb w') v (purge (some id) d) := by
  simp only [purge]
  cases hm : mt id d with
  | true => exact tv_any
  | false =>
    simp only [cond_false]
    cases d <;> simp only [TV] at h ⊢ <;> first | exact redo_av hI hr h hm | skip
    · obtain ⟨vs, h1, h2⟩ := h; exact ⟨vs, h1, vs_purge (fun v d h hq => redo_av hI hr h hq) h2 hm⟩
    · cases hm
/-- Objects of the call's own stand behind the mark. -/
def freeB (H : List Ob) (id : Nat) : Bool := (H.drop (id + 1)).all fun o => match o with | .gone => false | _ => true
theorem free_own (hI : Inv F c) {id : Nat} {o : Ob} (ho : c.H[id]? = some o) (hg : o ≠ .gone) (h : freeB c.H id = true) : F.L = [] ∨ F.L.length < id := by
  by_cases hl : F.L = []
  · exact .inl hl
  · right
    have h1 := hI.mark hl
    rcases Nat.lt_trichotomy F.L.length id with h2 | h2 | h2
    · exact h2
    · rw [h2, ho] at h1; cases h1; exact absurd rfl hg
    · have h3 : (c.H.drop (id + 1))[F.L.length - (id + 1)]? = some .gone := by rw [List.getElem?_drop]; rw [show id + 1 + (F.L.length - (id + 1)) = F.L.length by omega]; exact h1
      have := List.all_eq_true.1 h _ (List.mem_of_getElem? h3)
      cases this
theorem redo_inv (hI : Inv F c) (hown : F.L = [] ∨ F.L.length < id) (hr : Redo c id nb w') (hid : id < c.H.length) (wd n : Nat) (f : Nat → List D) (hov : OV (c.redo id (.arr wd n f) nb w') nb (.arr wd n f)) : Inv F (c.redo id (.arr wd n f) nb w') := by
  have hs := hr.size
  have hs0 := hI.below.size
  have hnl : ∀ k, c.mu id = some k → ¬ F.lent k := fun k hk hl => by
    obtain ⟨i, hi⟩ := List.getElem?_of_mem hl
    have h1 := hI.lent i _ hi
    have h2 := hI.inj i id k h1 hk
    have h3 := (List.getElem?_eq_some_iff.1 hi).1
    rcases hown with h4 | h4
    · rw [h4] at h3; simp at h3
    · omega
  have hown' : ∀ k, c.mu id = some k → F.w0.heap.size ≤ k := fun k hk => ((hI.loc id k hk).1).resolve_right (hnl k hk)
  have hlid : ∀ (i : Nat) v, F.L[i]? = some v → i ≠ id := fun i v hv e => by
    have h3 := (List.getElem?_eq_some_iff.1 hv).1
    rcases hown with h4 | h4
    · rw [h4] at h3; simp at h3
    · omega
  refine ⟨⟨hr.os.trans hI.below.os, hr.tape.trans hI.below.tape, hr.output.trans hI.below.output, Nat.le_trans hs0 hr.size, fun k hk hl => (hr.blk k (by omega) fun e => by have := hown' k e; omega).trans (hI.below.block k hk hl),
    fun k hl => let ⟨cs, cs', T, h1, h2, h3⟩ := hI.below.shape k hl; ⟨cs, cs', T, h1, (hr.blk k (hI.below.lt hl) fun e => hnl k e hl).trans h2, h3⟩⟩, fun b hb => ⟨Nat.lt_of_lt_of_le (hI.imm b hb).1 hs, (hI.imm b hb).2⟩, fun i b hb => ?_, fun i j b h1 h2 => ?_, fun i o2 h => ?_, fun i hi => ?_, fun i v hv => ?_, fun hl => ?_⟩
  rotate_left 4
  · simp only [Ctx.redo]
    rw [if_neg (hlid i v hv)]
    exact hI.lent i v hv
  · have h1 := hI.mark hl
    have hne : F.L.length ≠ id := by
      rcases hown with h4 | h4
      · exact absurd h4 hl
      · omega
    rw [redo_H hne h1]
    rfl
  · simp only [Ctx.redo] at hb
    split at hb
    · obtain ⟨h1, h2⟩ := hr.nb b hb
      rcases h2 with h2 | h2
      · exact ⟨(hI.loc id b h2).1, h1, (hI.loc id b h2).2.2⟩
      · exact ⟨.inl (by omega), h1, fun h => by have := (hI.imm b h).1; omega⟩
    · obtain ⟨h1, h2, h3⟩ := hI.loc i b hb
      exact ⟨h1, Nat.lt_of_lt_of_le h2 hs, h3⟩
  · simp only [Ctx.redo] at h1 h2
    have key : ∀ i, i ≠ id → c.mu i = some b → nb = some b → False := fun i hne h3 h4 => by
      rcases (hr.nb b h4).2 with h5 | h5
      · exact hne (hI.inj i id b h3 h5)
      · have := (hI.loc i b h3).2.1; omega
    split at h1 <;> split at h2
    · omega
    · exact (key j (by assumption) h2 h1).elim
    · exact (key i (by assumption) h1 h2).elim
    · exact hI.inj i j b h1 h2
  · by_cases e : i = id
    · subst e
      have : o2 = .arr wd n f := by
        simp only [Ctx.redo, List.getElem?_map, List.getElem?_set_self hid, Option.map_some, purgeO, Option.some.injEq] at h
        exact h.symm
      subst this
      have e2 : (c.redo i (.arr wd n f) nb w').mu i = nb := by simp [Ctx.redo]
      rw [e2]
      exact hov
    · obtain ⟨o3, hH, rfl⟩ : ∃ o3, c.H[i]? = some o3 ∧ purgeO id o3 = o2 := by
        simp only [Ctx.redo, List.getElem?_map, List.getElem?_set_ne (Ne.symm e)] at h
        exact Option.map_eq_some_iff.1 h
      have hv := hI.obj i o3 hH
      have e2 : (c.redo id (.arr wd n f) nb w').mu i = c.mu i := by simp [Ctx.redo, e]
      rw [e2]
      have hne : ∀ k, c.mu i = some k → w'.heap[k]? = c.w.heap[k]? := fun k hk => hr.blk k (hI.loc i k hk).2.1 fun h => e (hI.inj i id k hk h)
      cases o3 with
      | box cells =>
        obtain ⟨k, cs', T', hk, h1, h2⟩ := hv
        refine ⟨k, cs', T', hk, by show w'.heap[k]? = _; rw [hne k hk]; exact h1, by simp [h2.1], fun j v d h3 h4 => ?_⟩
        rw [List.getElem?_map] at h4
        obtain ⟨d0, hd0, rfl⟩ := Option.map_eq_some_iff.1 h4
        cases hm : mc id d0 with
        | true => simp only [cond_true, CV]; exact .any v
        | false => simp only [cond_false]; exact redo_cv hI hr (h2.2 j v d0 h3 hd0) hm
      | arr wd2 n2 f2 =>
        refine ⟨hv.1, hv.2.imp (fun x => x) ?_⟩
        rintro ⟨k, cs', T', hk, h1, h2, h3⟩
        exact ⟨k, cs', T', hk, by show w'.heap[k]? = _; rw [hne k hk]; exact h1, h2, fun i hi j d hd => let ⟨v, hv, ho, hp⟩ := h3 i hi j d hd; ⟨v, hv, ho, redo_pv hI hr hp⟩⟩
      | gone => exact hv
  · simp only [Ctx.redo, List.length_map, List.length_set] at hi ⊢
    rw [if_neg (by omega)]
    exact hI.dom i hi
end

/-! make -/
def bytesO (P : Program) (t : TypeId) : Option Nat := (P.info? t).map (·.bytes)
def makeD (P : Program) (H : List Ob) (t : TypeId) (l c : D) : Option (D × List Ob × List Bool) :=
  match P.underlying t, l, c with
  | some (.slice e), .int _ l, .int _ c => match szO P e, zeroD P e, bytesO P e with
    | some sz, some zs, some by_ => bif Nat.beq zs.length sz && zs.all (fun d => persB d && cellB d) then
        some (.asl H.length 0 l.toNat, H ++ [.arr sz l.toNat fun _ => zs], [decide (0 ≤ l), decide (l ≤ c), decide (c.toNat * by_ ≤ 140737488355328), decide (c.toNat ≤ 140737488355328)]) else none
    | _, _, _ => none
  | _, _, _ => none

theorem makeD_ok {P : Program} {F : Fr} {c : Ctx} (hI : Inv F c) {t : TypeId} {l k d : D} {H' : List Ob} {bs : List Bool} (h : makeD P c.H t l k = some (d, H', bs)) (hb : ∀ b ∈ bs, b = true)
    {vl vk : Value} (hl : TV c vl l) (hk : TV c vk k) : Turns P F c (do pure (.value (← Instr.makeSlice t vl vk))) d H' none := by
  unfold makeD at h
  split at h <;> try cases h
  rename_i e k1 ln k2 cp hu
  split at h <;> try cases h
  rename_i sz zs by_ hs hz hby
  cases hc : (Nat.beq zs.length sz && zs.all fun d => persB d && cellB d) with
  | false => rw [hc] at h; cases h
  | true =>
    simp only [hc, cond_true, Option.some.injEq, Prod.mk.injEq] at h
    obtain ⟨rfl, rfl, rfl⟩ := h
    simp only [Bool.and_eq_true, List.all_eq_true] at hc
    obtain ⟨hc0, hpc⟩ := hc
    have hzl := Nat.eq_of_beq_eq_true hc0
    have b1 : 0 ≤ ln := by simpa using hb _ (List.mem_cons_self)
    have b2 : ln ≤ cp := by simpa using hb (decide (ln ≤ cp)) (by simp)
    have b3 : cp.toNat * by_ ≤ 140737488355328 := by simpa using hb (decide (cp.toNat * by_ ≤ 140737488355328)) (by simp)
    have b4 : cp.toNat ≤ 140737488355328 := by simpa using hb (decide (cp.toNat ≤ 140737488355328)) (by simp)
    obtain rfl := hl.int_inv
    obtain rfl := hk.int_inv
    obtain ⟨z, hz1, hz2⟩ := zeroD_ok hz c
    have hzs : z.cells.size = sz := by rw [hz2.1, hzl]
    have w1 : IntKind.i64.wrap ln = ln := IntWalk.i64_in _ (by omega)
    have w2 : IntKind.i64.wrap cp = cp := IntWalk.i64_in _ (by omega)
    unfold bytesO at hby
    obtain ⟨inf, hinf, rfl⟩ := Option.map_eq_some_iff.1 hby
    let zc : Array Value := if cp.toNat * sz = 0 then #[] else z.cells
    let cs : Array Value := (Array.range (cp.toNat * sz)).map fun i => zc[i % zc.size]!
    have hm := more_alloc c.w cs e
    have hmul : (inf.bytes : Int) * cp = ((cp.toNat * inf.bytes : Nat) : Int) := by
      have : cp = (cp.toNat : Int) := by omega
      rw [Int.natCast_mul, Int.mul_comm, ← this]
    have hcell : ∀ i, i < ln.toNat → ∀ j, j < sz → cs[i * sz + j]? = some (z.cells.getD j undef) := by
      intro i hi j hj
      have h1 : i * sz + j < cp.toNat * sz := by
        have := Nat.mul_le_mul_right sz (show i + 1 ≤ cp.toNat by omega)
        rw [Nat.succ_mul] at this
        omega
      have h2 : cp.toNat * sz ≠ 0 := by omega
      have h3 : (i * sz + j) % sz = j := by rw [Nat.mul_comm, Nat.mul_add_mod]; exact Nat.mod_eq_of_lt hj
      simp only [cs, zc, if_neg h2, hzs]
      simp [h1, h3, hzs, hj]
    refine ⟨.slice (some ⟨c.w.heap.size, 0, none⟩) ln.toNat cp.toNat, c.made _ (.arr sz ln.toNat fun _ => zs), .inl ?_, made_inv hI hm _ ⟨fun _ _ => hzl, .inr ⟨_, cs, e, rfl, hm.new, ?_, ?_⟩⟩, rfl, fun u e h => made_tv hI hm _ h, ?_⟩
    · have t1 : ¬ (decide (cp < 0) || decide ((inf.bytes : Int) * cp > 2 ^ 48) || decide (ln < 0) || decide (ln > cp)) = true := by
        simp only [Bool.or_eq_true, decide_eq_true_eq]
        rw [hmul]
        generalize cp.toNat * inf.bytes = q at b3
        omega
      by_cases h0 : cp.toNat * sz = 0
      · simp only [Instr.makeSlice, Sem.run_bind, run_underlying hu, Result.andThen_ok, asInt, asIntOf, Sem.run_pure, typeInfo, run_program, hinf, w1, w2, if_neg t1, run_askRoom, run_sz hs, if_pos h0, newRow, run_newObj]
        simp only [cs, zc, if_pos h0]
        rfl
      · simp only [Instr.makeSlice, Sem.run_bind, run_underlying hu, Result.andThen_ok, asInt, asIntOf, Sem.run_pure, typeInfo, run_program, hinf, w1, w2, if_neg t1, run_askRoom, run_sz hs, if_neg h0, newRow, run_newObj, hz1]
        simp only [cs, zc, if_neg h0]
        rfl
    · simp [cs]; exact Nat.mul_le_mul_right _ (by omega)
    · intro i hi j d hd
      have hj : j < sz := by rw [← hzl]; exact (List.getElem?_eq_some_iff.1 hd).1
      have h1 := hz2.2 j (z.cells.getD j undef) d (by simp [hzs, hj]) hd
      have h2 := hpc d (List.mem_of_getElem? hd)
      exact ⟨_, hcell i hi j hj, cv_one h2.2 h1, made_pv hI hm (pers_pv h2.1 h1)⟩
    · simp only [TV, AV, CV]
      refine ⟨sz, ln.toNat, fun _ => zs, _, cp.toNat, by simp [Ctx.made], by omega, rfl, by omega, .inr ⟨c.w.heap.size, by simp [Ctx.made], by simp, cs, e, hm.new, by simp [cs]⟩⟩
end Nv
