/- From the walk of a body to the function's contract. -/
import Derived.Test.YtmangnohekiphaaNvAwp
namespace Nv
open Go Go.RowKit

def initEnv : Nat → List D → List (Nat × D)
  | _, [] => []
  | k, d :: ds => (k, d) :: initEnv (k + 1) ds
theorem find_init : ∀ (ds : List D) (k t : Nat), find (initEnv k ds) t = .any ∨ (k ≤ t ∧ ∃ d, ds[t - k]? = some d ∧ find (initEnv k ds) t = d)
  | [], k, t => .inl rfl
  | d :: ds, k, t => by
    simp only [initEnv, find]
    cases h : Nat.beq k t with
    | true =>
      obtain rfl := Nat.eq_of_beq_eq_true h
      exact .inr ⟨Nat.le_refl _, d, by simp, rfl⟩
    | false =>
      have hne : k ≠ t := Nat.ne_of_beq_eq_false h
      simp only [cond_false]
      rcases find_init ds (k + 1) t with h1 | ⟨h1, d', h2, h3⟩
      · exact .inl h1
      · refine .inr ⟨by omega, d', ?_, h3⟩
        rw [show t - k = (t - (k + 1)) + 1 by omega, List.getElem?_cons_succ]
        exact h2

/-- One result. -/
def res1 (P : Program) (s : St) : ResultVar → Option D
  | .tmp t => some (find s.env t)
  | .cell a t => match cellsAt s.H (find s.env a) with
    | some cs => ldD P t cs
    | none => none
def resL (P : Program) (s : St) : List ResultVar → Option (List D)
  | [] => some []
  | r :: rs => match res1 P s r, resL P s rs with
    | some d, some ds => some (d :: ds)
    | _, _ => none
/-- Results as they are handed over: objects become persistent. -/
def normR (H : List Ob) : D → D
  | .agg cs => .agg (cs.map (normC H))
  | d => normC H d
def resD (P : Program) (s : St) (rs : List ResultVar) : Option D :=
  match resL P s rs with
  | some [d] => bif pArg (normR s.H d) then some (normR s.H d) else none
  | some ds => bif (ds.map (normR s.H)).all pArg then some (.tup (ds.map (normR s.H))) else none
  | none => none

def rdR (a : Act) (r : ResultVar) : Sem Value :=
  match r with
  | .tmp t => pure (a.tmps.getD t undef)
  | .cell x t => do loadVar t (← asAddr (a.tmps.getD x undef))
theorem results_run {P : Program} {fn : Func} {a : Act} {w : World} {us : List Value} (h : (fn.results.toList.mapM (rdR a)).run P w = .ok us w) :
    (results fn a.tmps).run P w = .ok (if h : us.toArray.size = 1 then us.toArray[0] else .tuple us.toArray) w := by
  have hm : (fn.results.mapM (rdR a)).run P w = .ok us.toArray w := by
    rw [Array.mapM_eq_mapM_toList]
    simp only [Sem.run_map, h, Result.andThen_ok]
  show ((fn.results.mapM (rdR a)) >>= fun vs => pure (if h : vs.size = 1 then vs[0] else .tuple vs)).run P w = _
  rw [Sem.run_bind, hm]
  rfl

theorem res1_ok {P : Program} {F : Fr} {s : St} {c : Ctx} {a : Act} (hI : Inv F c) (hH : c.H = s.H) (henv : ∀ t, TV c (a.tmps.getD t undef) (find s.env t)) {r : ResultVar} {d : D} (h : res1 P s r = some d) :
    ∃ v, (rdR a r).run P c.w = .ok v c.w ∧ TV c v d := by
  cases r with
  | tmp t =>
    simp only [res1, Option.some.injEq] at h
    subst h
    exact ⟨_, rfl, henv t⟩
  | cell x t =>
    simp only [res1] at h
    split at h <;> try cases h
    rename_i cs hcs
    obtain ⟨b, off, g, hv, hc, hcv⟩ := cellsAt_ok hI (by rw [hH]; exact hcs) (henv x)
    obtain ⟨v', h1, h2⟩ := run_ldD h hc hcv
    exact ⟨v', by simp [rdR, hv, asAddr, h1], h2⟩

theorem resL_ok {P : Program} {F : Fr} {s : St} {c : Ctx} {a : Act} (hI : Inv F c) (hH : c.H = s.H) (henv : ∀ t, TV c (a.tmps.getD t undef) (find s.env t)) : ∀ (rs : List ResultVar) (ds : List D), resL P s rs = some ds →
    ∃ vs : List Value, (rs.mapM (rdR a)).run P c.w = .ok vs c.w ∧ vs.length = ds.length ∧
      ∀ (i : Nat) v d, vs[i]? = some v → ds[i]? = some d → TV c v d
  | [], ds, h => by
    simp only [resL, Option.some.injEq] at h
    subst h
    exact ⟨[], by simp, rfl, fun i v d h1 _ => by simp at h1⟩
  | r :: rs, ds, h => by
    simp only [resL] at h
    split at h <;> try cases h
    rename_i d ds' h1 h2
    obtain ⟨v, hv1, hv2⟩ := res1_ok hI hH henv h1
    obtain ⟨vs, hs1, hs2, hs3⟩ := resL_ok hI hH henv rs ds' h2
    refine ⟨v :: vs, ?_, by simp [hs2], fun i u e h3 h4 => ?_⟩
    · rw [List.mapM_cons]
      simp only [Sem.run_bind, hv1, Result.andThen_ok, hs1, Sem.run_pure]
    · cases i with
      | zero => simp at h3 h4; subst h3; subst h4; exact hv2
      | succ i => exact hs3 i u e (by simpa using h3) (by simpa using h4)

theorem normR_eq (H : List Ob) (d : D) (h : ∀ cs, d ≠ .agg cs) : normR H d = normC H d := by
  cases d <;> first | rfl | exact absurd rfl (h _)
theorem normR_ok {F : Fr} {c : Ctx} (hI : Inv F c) {v : Value} {d : D} (h : TV c v d) (hp : pArg (normR c.H d) = true) : AV (NoCtx (Iall c) c.w) v (normR c.H d) := by
  cases d with
  | agg cs =>
    simp only [normR, pArg, List.all_eq_true, List.mem_map, forall_exists_index, and_imp, forall_apply_eq_imp_iff₂] at hp
    obtain ⟨vs, rfl, hvs⟩ := h
    refine ⟨vs, rfl, by simp [hvs.1], fun i v d' h2 h3 => ?_⟩
    rw [List.getElem?_map] at h3
    obtain ⟨e, he, rfl⟩ := Option.map_eq_some_iff.1 h3
    exact nopv (normC_all hI (hvs.2 i v e h2 he) (hp e (List.mem_of_getElem? he)))
  | fn f cap =>
    simp only [normR, normC, pArg, List.all_eq_true] at hp ⊢
    obtain ⟨vs, rfl, hvs⟩ := h
    exact ⟨vs, rfl, hvs.1, fun i v d h2 h3 => nopv ((pers_pv (hp d (List.mem_of_getElem? h3)) (hvs.2 i v d h2 h3)).mono (fun _ h => .inl h) fun _ _ => rfl)⟩
  | tup ds => simp [normR, normC, pArg, persB] at hp
  | opt j w d => simp [normR, normC, pArg, persB] at hp
  | _ =>
    rw [normR_eq _ _ (by simp)] at hp ⊢
    refine av_of_cv (nopv (normC_all hI ?_ ?_))
    · simpa only [TV, AV] using h
    · rw [← pArg_normC _ _ (by simp) (by simp)]; exact hp

/-- d says at least what d' says. -/
def Sub (d d' : D) : Prop := ∀ (c : Ctx) (v : Value), TV c v d → TV c v d'
theorem Sub.rfl {d : D} : Sub d d := fun _ _ h => h
theorem Sub.trans {a b c : D} (h : Sub a b) (k : Sub b c) : Sub a c := fun cx v hv => k cx v (h cx v hv)

/-- How a body ends well. -/
def Ends (P : Program) (fn : Func) (r : D) (e : Exit) (s : St) : Prop := (e = .normal ∨ e = .ret) ∧ ∃ d, resD P s fn.results.toList = some d ∧ Sub d r
def EndsOwn (fn : Func) (wd n : Nat) (g : Nat → List D) (e : Exit) (s : St) : Prop :=
  (e = .normal ∨ e = .ret) ∧ ∃ t id f, fn.results.toList = [.tmp t] ∧ find s.env t = .asl id 0 n ∧ s.H[id]? = some (.arr wd n f) ∧ ∀ i, i < n → f i = g i

theorem fn_start {fn : Func} {ds : List D} (hn : ds.length ≤ fn.ntmps) {I0 : Nat → Prop} {w : World} {vs : Array Value} (hI0 : ∀ b, I0 b → b < w.heap.size) (hvs : Vs (AV (NoCtx I0 w)) vs ds) :
    Rel ⟨w, I0, []⟩ ⟨fn.ntmps, initEnv 0 ds, []⟩ { tmps := vs ++ Array.replicate (fn.ntmps - vs.size) undef, defers := [] } w := by
  refine ⟨NoCtx I0 w, rfl, rfl, ⟨⟨rfl, rfl, rfl, Nat.le_refl _, fun _ _ _ => rfl, fun k h => by simp [Fr.lent] at h⟩, fun b hb => ⟨hI0 b hb, fun _ => hb⟩, fun id b h => by simp [NoCtx] at h, fun i j b h => by simp [NoCtx] at h, fun id o h => by simp [NoCtx] at h, fun _ _ => rfl, fun i v h => by simp at h, fun h => absurd rfl h⟩, fun t => ?_, ?_, rfl⟩
  · show TV _ _ (find (initEnv 0 ds) t)
    rcases find_init ds 0 t with h | ⟨_, d, h1, h2⟩
    · rw [h]; exact tv_any
    · rw [h2]
      simp only [Nat.sub_zero] at h1
      have hlt : t < vs.size := by rw [hvs.1]; exact (List.getElem?_eq_some_iff.1 h1).1
      have e : (vs ++ Array.replicate (fn.ntmps - vs.size) undef).getD t undef = vs[t] := by
        rw [Array.getD_eq_getD_getElem?, Array.getElem?_append_left hlt]; simp [hlt]
      rw [e]
      exact tv_of_av (hvs.2 t _ d (by simp [hlt]) h1)
  · simp [hvs.1]; omega

theorem fn_pure {P : Program} {f : FuncId} {fn : Func} {code : Code} {ds : List D} {r : D} (hf : P.funcs[f]? = some fn) (hb : fn.body = some code) (hn : Nat.ble ds.length fn.ntmps = true)
    (h : AWP P code (Ends P fn r) ⟨fn.ntmps, initEnv 0 ds, []⟩) : Fn P f ds (.pure r) := by
  intro I0 w vs hI0 hvs
  refine calls_of_wp hf hb (wp_mono (h ⟨w, I0, []⟩ _ w (fn_start (Nat.le_of_ble_eq_true hn) hI0 hvs)) ?_)
  rintro e a' w' ⟨s', ⟨he, d, hd, hsub⟩, c, rfl, hH, hI, henv, hsz, hdef⟩
  have key : ∃ v, (results fn a'.tmps).run P c.w = .ok v c.w ∧ TV (NoCtx (Iall c) c.w) v d := by
    unfold resD at hd
    split at hd
    · rename_i d0 hl
      cases hp : pArg (normR s'.H d0) with
      | false => simp [hp] at hd
      | true =>
        simp only [hp, cond_true, Option.some.injEq] at hd
        subst hd
        obtain ⟨us, h1, h2, h3⟩ := resL_ok (P := P) hI hH henv _ _ hl
        match us, h2 with
        | [v], _ =>
          refine ⟨v, ?_, tv_of_av (by rw [← hH]; exact normR_ok hI (h3 0 v d0 rfl rfl) (by rw [hH]; exact hp))⟩
          rw [results_run h1]
          rfl
    · rename_i ds0 hne hl
      cases hp : (ds0.map (normR s'.H)).all pArg with
      | false => simp [hp] at hd
      | true =>
        simp only [hp, cond_true, Option.some.injEq] at hd
        subst hd
        obtain ⟨us, h1, h2, h3⟩ := resL_ok (P := P) hI hH henv _ _ hl
        refine ⟨.tuple us.toArray, ?_, us.toArray, rfl, by simp [h2], fun i v d' h4 h5 => ?_⟩
        · rw [results_run h1]
          have : ¬ us.toArray.size = 1 := by
            intro h1
            simp [h2] at h1
            match ds0, h1 with
            | [d1], _ => exact hne d1 rfl
          rw [dif_neg this]
        · rw [List.getElem?_map] at h5
          obtain ⟨d1, hd1, rfl⟩ := Option.map_eq_some_iff.1 h5
          have hp1 : pArg (normR s'.H d1) = true := List.all_eq_true.1 hp _ (List.mem_map.2 ⟨d1, List.mem_of_getElem? hd1, rfl⟩)
          rw [← hH]
          exact normR_ok hI (h3 i v d1 (by simpa using h4) hd1) (by rw [hH]; exact hp1)
    · cases hd
  obtain ⟨v, hv1, hv2⟩ := key
  have post : ∃ v' I1, Ending.returned v = .returned v' ∧ Below w.heap.size w c.w ∧ Fresh I0 w c.w I1 ∧ RV I1 w.heap.size c.w v' (.pure r) := by
    refine ⟨v, Iall c, rfl, hI.below.below rfl, fun b hb => ?_, hsub _ _ hv2⟩
    rcases hb with hb | ⟨id, hb⟩
    · rcases Nat.lt_or_ge b w.heap.size with h1 | h1
      · exact .inl ((hI.imm b hb).2 h1)
      · exact .inr ⟨h1, (hI.imm b hb).1⟩
    · exact .inr ⟨(hI.loc id b hb).1.resolve_right (by simp [Fr.lent]), (hI.loc id b hb).2.1⟩
  rcases he with rfl | rfl
  · exact ⟨hdef, v, hv1, post⟩
  · exact ⟨hdef, v, hv1, post⟩

theorem fn_own {P : Program} {f : FuncId} {fn : Func} {code : Code} {ds : List D} {wd n : Nat} {g : Nat → List D} (hf : P.funcs[f]? = some fn) (hb : fn.body = some code) (hn : Nat.ble ds.length fn.ntmps = true)
    (h : AWP P code (EndsOwn fn wd n g) ⟨fn.ntmps, initEnv 0 ds, []⟩) : Fn P f ds (.own wd n g) := by
  intro I0 w vs hI0 hvs
  refine calls_of_wp hf hb (wp_mono (h ⟨w, I0, []⟩ _ w (fn_start (Nat.le_of_ble_eq_true hn) hI0 hvs)) ?_)
  rintro e a' w' ⟨s', ⟨he, t, id, f', hres, hfd, hob, hext⟩, c, rfl, hH, hI, henv, hsz, hdef⟩
  have hv := henv t
  rw [hfd] at hv
  simp only [TV, AV, CV] at hv
  obtain ⟨wd', n', f'', a, cap, ho, hl, hval, hcap, hor⟩ := hv
  rw [hH, hob] at ho
  cases ho
  have hrun : (results fn a'.tmps).run P c.w = .ok (a'.tmps.getD t undef) c.w := by
    unfold results
    have : fn.results = #[.tmp t] := by apply Array.ext'; simpa using hres
    rw [this]
    simp
  have hOV := hI.obj id _ (by rw [hH]; exact hob)
  have post : ∃ v' I1, Ending.returned (a'.tmps.getD t undef) = .returned v' ∧ Below w.heap.size w c.w ∧ Fresh I0 w c.w I1 ∧ RV I1 w.heap.size c.w v' (.own wd n g) := by
    refine ⟨_, c.I, rfl, hI.below.below rfl, fun b hb => ?_, a, cap, hval, hcap, fun i hi => by rw [← hext i hi]; exact hOV.1 i hi, ?_⟩
    · rcases Nat.lt_or_ge b w.heap.size with h1 | h1
      · exact .inl ((hI.imm b hb).2 h1)
      · exact .inr ⟨h1, (hI.imm b hb).1⟩
    · rcases hor with h0 | ⟨b, hmu, ha, hroom⟩
      · exact .inl h0
      · rcases hOV.2 with ⟨h0, _⟩ | ⟨b', cs, T, hb', hh, hn', hcells⟩
        · rw [hmu] at h0; cases h0
        · rw [hmu] at hb'
          cases hb'
          obtain ⟨cs', T', hh', hr⟩ := hroom
          rw [hh] at hh'
          cases hh'
          refine .inr ⟨b, cs, T, by simpa using ha, (hI.loc id b hmu).1.resolve_right (by simp [Fr.lent]), (hI.loc id b hmu).2.1, (hI.loc id b hmu).2.2, hh, by simpa using hr, fun i hi j d hd => hcells i hi j d (by rw [hext i hi]; exact hd)⟩
  rcases he with rfl | rfl
  · exact ⟨hdef, _, hrun, post⟩
  · exact ⟨hdef, _, hrun, post⟩
end Nv
