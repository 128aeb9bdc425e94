/- Contracts: a function of persistent data that gives persistent data, or a new slice of the caller's own. -/
import Derived.Test.YtmangnohekiphaaNvAppend2
namespace Nv
open Go Go.RowKit

def NoCtx (I : Nat → Prop) (w : World) : Ctx := { I := I, mu := fun _ => none, H := [], w := w }

/-- What the results' blocks may be: those that were immutable before, and new ones. -/
def Fresh (I0 : Nat → Prop) (w w' : World) (I1 : Nat → Prop) : Prop := ∀ b, I1 b → I0 b ∨ (w.heap.size ≤ b ∧ b < w'.heap.size)

def Own (I : Nat → Prop) (B : Nat) (w : World) (v : Value) (wd n : Nat) (g : Nat → List D) : Prop :=
  ∃ a cap, v = .slice a n cap ∧ n ≤ cap ∧ (∀ i, i < n → (g i).length = wd) ∧
    (cap = 0 ∨ ∃ b cs T, a = some ⟨b, 0, none⟩ ∧ B ≤ b ∧ b < w.heap.size ∧ ¬ I b ∧ w.heap[b]? = some (.cells cs T (0, 0)) ∧ cap * wd ≤ cs.size ∧
      ∀ i, i < n → ∀ (j : Nat) (d : D), (g i)[j]? = some d → ∃ u, cs[i * wd + j]? = some u ∧ u.oneCell' = true ∧ PV I w u d)

inductive Res where
  | pure (d : D)
  | own (wd n : Nat) (g : Nat → List D)
  | lnd (wd n : Nat) (g g' : Nat → List D) (d : D)

def RV (I : Nat → Prop) (B : Nat) (w : World) (v : Value) : Res → Prop
  | .pure d => TV (NoCtx I w) v d
  | .own wd n g => Own I B w v wd n g
  | .lnd _ _ _ _ _ => False

/-- The contract. -/
def Fn (P : Program) (f : FuncId) (ds : List D) (r : Res) : Prop :=
  ∀ (I0 : Nat → Prop) (w : World) (vs : Array Value), (∀ b, I0 b → b < w.heap.size) → Vs (AV (NoCtx I0 w)) vs ds →
    Calls P f vs w fun e w' => ∃ v I1, e = .returned v ∧ Below w.heap.size w w' ∧ Fresh I0 w w' I1 ∧ RV I1 w.heap.size w' v r

/-- The context of a call to which one array is lent. -/
def Lctx (I : Nat → Prop) (m : Option Nat) (o : Ob) (w : World) : Ctx := { I := I, mu := fun i => if i = 0 then m else none, H := [o, .gone], w := w }
/-- The contract of a function to which an array is lent: what it holds before and behind the call. -/
def FnM (P : Program) (f : FuncId) (ds : List D) (wd n : Nat) (g g' : Nat → List D) (d : D) : Prop :=
  ∀ (I0 : Nat → Prop) (w : World) (m : Option Nat) (vs : Array Value), (∀ b, I0 b → b < w.heap.size) → (∀ b, m = some b → b < w.heap.size ∧ ¬ I0 b) → OV (Lctx I0 m (.arr wd n g) w) m (.arr wd n g) → Vs (AV (Lctx I0 m (.arr wd n g) w)) vs ds →
    Calls P f vs w fun e w' => ∃ v I1, e = .returned v ∧ Bel ⟨w, I0, [m]⟩ w' ∧ Fresh I0 w w' I1 ∧ OV (Lctx I1 m (.arr wd n g') w') m (.arr wd n g') ∧ TV (Lctx I1 m (.arr wd n g') w') v d

theorem nocv {I I' : Nat → Prop} {w : World} {v : Value} {d : D} {mu : Nat → Option Nat} {H : List Ob} (hI : ∀ b, I b → I' b) (h : CV (NoCtx I w) v d) : CV ⟨I', mu, H, w⟩ v d := by
  cases d <;> simp only [CV] at h ⊢ <;> try exact h.mono hI fun _ _ => rfl
  · obtain ⟨b, hb, _⟩ := h; simp [NoCtx] at hb
  · obtain ⟨b, _, _, _, hb, _⟩ := h; simp [NoCtx] at hb
  · obtain ⟨_, _, _, _, _, hb, _⟩ := h; simp [NoCtx] at hb
theorem noav {I I' : Nat → Prop} {w : World} {v : Value} {d : D} {mu : Nat → Option Nat} {H : List Ob} (hI : ∀ b, I b → I' b) (h : AV (NoCtx I w) v d) : AV ⟨I', mu, H, w⟩ v d := by
  cases d <;> simp only [AV] at h ⊢ <;> try exact nocv hI h
  · obtain ⟨vs, h1, h2⟩ := h; exact ⟨vs, h1, h2.mono fun _ _ => nocv hI⟩
  · obtain ⟨vs, h1, h2⟩ := h; exact ⟨vs, h1, h2.mono fun _ _ => nocv hI⟩
theorem notv {I I' : Nat → Prop} {w : World} {v : Value} {d : D} {mu : Nat → Option Nat} {H : List Ob} (hI : ∀ b, I b → I' b) (h : TV (NoCtx I w) v d) : TV ⟨I', mu, H, w⟩ v d := by
  cases d <;> simp only [TV] at h ⊢ <;> try exact noav hI h
  obtain ⟨vs, h1, h2⟩ := h; exact ⟨vs, h1, h2.mono fun _ _ => noav hI⟩

/-! arguments -/
def normC (H : List Ob) : D → D
  | .sl _ wd n f => .sl false wd n f
  | .asl id off len => match H[id]? with
    | some (.arr wd _ f) => .sl false wd len fun i => f (off + i)
    | _ => .asl id off len
  | .ref id off => match H[id]? with
    | some (.box cells) => bif cells.all persB then .pp (cells.drop off) else .ref id off
    | _ => .ref id off
  | d => d
def normA (P : Program) (H : List Ob) (t : TypeId) (d : D) : D :=
  match adj P t d with
  | .agg cs => .agg (cs.map (normC H))
  | .fn f cap => .fn f (cap.map (normC H))
  | d => normC H d
def pArg : D → Bool
  | .agg cs => cs.all persB
  | .fn _ cap => cap.all persB
  | d => persB d
def ownC : D → Bool
  | .asl _ _ _ => true
  | .ref _ _ => true
  | _ => false
def ownA : D → Bool
  | .agg cs => cs.any ownC
  | .fn _ cap => cap.any ownC
  | d => ownC d
def scalarC : D → Bool
  | .int _ _ | .bool _ | .str _ => true
  | _ => false
def scalarB : Res → Bool
  | .pure (.tup ds) => ds.all scalarC
  | .pure d => scalarC d
  | .own _ _ _ => false
  | .lnd _ _ _ _ _ => false
def notMut : Res → Bool
  | .lnd _ _ _ _ _ => false
  | _ => true

/-- The immutable blocks and the objects' own. -/
def Iall (c : Ctx) (b : Nat) : Prop := c.I b ∨ ∃ id, c.mu id = some b

theorem pv_full {I : Nat → Prop} {w : World} {v : Value} {full : Bool} {wd n : Nat} {f : Nat → List D} (h : PV I w v (.sl full wd n f)) : PV I w v (.sl false wd n f) := by
  cases h with
  | sl a n cap wd full f g hfull hcap hb hw hone hv => exact .sl a n cap wd false f g (fun h => by cases h) hcap hb hw hone hv

theorem normC_all {F : Fr} {c : Ctx} (hI : Inv F c) {v : Value} {d : D} (h : CV c v d) (hp : persB (normC c.H d) = true) : PV (Iall c) c.w v (normC c.H d) := by
  cases d <;> simp only [normC] at hp ⊢ <;> simp only [CV] at h <;> try exact h.mono (fun _ h => .inl h) fun _ _ => rfl
  · exact (pv_full h).mono (fun _ h => .inl h) fun _ _ => rfl
  · rename_i id off
    obtain ⟨b, hb, rfl⟩ := h
    split at hp <;> try (simp [persB] at hp; done)
    rename_i cells ho
    cases hc : cells.all persB with
    | false => rw [hc] at hp; simp [persB] at hp
    | true =>
      simp only [cond_true]
      obtain ⟨b', cs, T, hb', hcs, hvs⟩ := hI.obj id _ ho
      rw [hb] at hb'
      cases hb'
      have hget : ∀ j, j < (cells.drop off).length → off + j < cs.size := fun j hj => by
        rw [hvs.1]; simp at hj; omega
      refine .pp b off _ (fun j => cs.getD (off + j) undef) (.inr ⟨id, hb⟩) (fun j hj => ?_) (fun j d hd => ?_)
      · have := hget j hj
        simp [World.cell?, hcs, this]
      · have hj := (List.getElem?_eq_some_iff.1 hd).1
        have h1 := hget j hj
        rw [List.getElem?_drop] at hd
        have h2 := hvs.2 (off + j) (cs.getD (off + j) undef) d (by simp [h1]) hd
        exact (pers_pv (List.all_eq_true.1 hc d (List.mem_of_getElem? hd)) h2).mono (fun _ h => .inl h) fun _ _ => rfl
  · simp [persB] at hp
  · rename_i id off len
    have h1 : TV c v (.asl id off len) := by simp only [TV, AV, CV]; exact h
    obtain ⟨wd, n, f, a0, cap0, ho, hl, hv0, hc0, hor⟩ := h
    simp only [ho]
    obtain ⟨a, cap, gv, hS⟩ := src_ok hI (x := .asl id off len) (wd := wd) (m := len) (g := fun i => f (off + i)) (by simp only [srcD, ho]) h1
    have hval := hS.val
    rw [hv0] at hval
    cases hval
    subst hv0
    refine .sl a0 len cap0 wd false _ gv (fun h => by cases h) hS.le (fun hn => ?_) hS.len hS.one fun i hi j d hd => (hS.pv i hi j d hd).mono (fun _ h => .inl h) fun _ _ => rfl
    obtain ⟨b, o, ha, hc⟩ := hS.cell hn
    rcases hor with h0 | ⟨b', hb', ha', _⟩
    · omega
    · rw [ha] at ha'
      cases ha'
      exact ⟨_, _, ha, .inr ⟨id, hb'⟩, hc⟩
theorem normC_I {c : Ctx} {v : Value} {d : D} (h : CV c v d) (hp : persB (normC c.H d) = true) (ho : ownC d = false) : PV c.I c.w v (normC c.H d) := by
  cases d <;> simp only [normC] at hp ⊢ <;> simp only [CV] at h <;> try exact h
  · exact pv_full h
  · simp [ownC] at ho
  · simp [persB] at hp
  · simp [ownC] at ho

theorem nopv {I : Nat → Prop} {w : World} {v : Value} {d : D} (h : PV I w v d) : CV (NoCtx I w) v d := cv_pv h

theorem pArg_normC (H : List Ob) (d : D) (h1 : ∀ cs, d ≠ .agg cs) (h2 : ∀ f cs, d ≠ .fn f cs) : pArg (normC H d) = persB (normC H d) := by
  cases d <;> first | exact absurd rfl (h1 _) | exact absurd rfl (h2 _ _) | rfl | skip
  · simp only [normC]
    split
    · rename_i cells _
      cases cells.all persB <;> rfl
    · rfl
  · simp only [normC]
    split <;> rfl

theorem normA_ok {P : Program} {c : Ctx} {I : Nat → Prop} {t : TypeId} {v : Value} {d : D} (hv : TV c v d) (hp : pArg (normA P c.H t d) = true)
    (hc : ∀ v e, CV c v e → persB (normC c.H e) = true → (ownC e = true → ownA (adj P t d) = true) → PV I c.w v (normC c.H e)) (_hII : ∀ b, c.I b → I b) : AV (NoCtx I c.w) v (normA P c.H t d) := by
  have h1 := tv_adj (P := P) (t := t) hv
  unfold normA at hp ⊢
  generalize adj P t d = e at *
  cases e with
  | agg cs =>
    simp only [pArg, List.all_eq_true, List.mem_map, forall_exists_index, and_imp, forall_apply_eq_imp_iff₂] at hp
    obtain ⟨vs, rfl, hvs⟩ := h1
    refine ⟨vs, rfl, by simp [hvs.1], fun i v d' h2 h3 => ?_⟩
    rw [List.getElem?_map] at h3
    obtain ⟨e, he, rfl⟩ := Option.map_eq_some_iff.1 h3
    refine nopv (hc v e (hvs.2 i v e h2 he) (hp e (List.mem_of_getElem? he)) fun ho => ?_)
    simp only [ownA, List.any_eq_true]
    exact ⟨e, List.mem_of_getElem? he, ho⟩
  | fn f cap =>
    simp only [pArg, List.all_eq_true, List.mem_map, forall_exists_index, and_imp, forall_apply_eq_imp_iff₂] at hp
    obtain ⟨vs, rfl, hvs⟩ := h1
    refine ⟨vs, rfl, by simp [hvs.1], fun i v d' h2 h3 => ?_⟩
    rw [List.getElem?_map] at h3
    obtain ⟨e, he, rfl⟩ := Option.map_eq_some_iff.1 h3
    refine nopv (hc v e (hvs.2 i v e h2 he) (hp e (List.mem_of_getElem? he)) fun ho => ?_)
    simp only [ownA, List.any_eq_true]
    exact ⟨e, List.mem_of_getElem? he, ho⟩
  | tup ds => simp [normC, pArg, persB] at hp
  | opt j w d => simp [normC, pArg, persB] at hp
  | _ =>
    refine av_of_cv (nopv (hc v _ ?_ ?_ ?_))
    · simpa only [TV, AV] using h1
    · rw [← pArg_normC _ _ (by simp) (by simp)]; exact hp
    · exact fun h => h
end Nv
