/- Functions to which an array is lent; drawn regions that change objects; recursion. -/
import Derived.Test.YtmangnohekiphaaNvGen
import Derived.Test.YtmangnohekiphaaNvDraw3
namespace Nv
open Go Go.RowKit

def resM (P : Program) (s : St) (rs : List ResultVar) : Option D :=
  match resL P s rs with
  | some [d] => bif retB d then some d else none
  | some ds => bif ds.all scalarC then some (.tup ds) else none
  | none => none
/-- How a body ends to which an array was lent. -/
def EndsM (P : Program) (fn : Func) (wd n : Nat) (g' : Nat → List D) (r : D) (e : Exit) (s : St) : Prop :=
  (e = .normal ∨ e = .ret) ∧ ∃ s', Le s s' ∧ (∃ f', s'.H[0]? = some (.arr wd n f') ∧ ∀ i, i < n → f' i = g' i) ∧ resM P s' fn.results.toList = some r
theorem emr {P : Program} {fn : Func} {α : Type} [Inhabited α] {wd : Nat} {c : α → List D} {l l0 : List α} {r : D} {s s' : St} (hle : Le s s') (hl : l.length = l0.length) (hH : s'.H[0]? = some (aL wd c l) := by kernel_rfl) (hr : resM P s' fn.results.toList = some r := by kernel_rfl) :
    EndsM P fn wd l0.length (fun i => c (l.getD i default)) r .ret s := ⟨.inr rfl, s', hle, ⟨_, by rw [hH, ← hl]; rfl, fun _ _ => rfl⟩, hr⟩
theorem emn {P : Program} {fn : Func} {α : Type} [Inhabited α] {wd : Nat} {c : α → List D} {l l0 : List α} {r : D} {s s' : St} (hle : Le s s') (hl : l.length = l0.length) (hH : s'.H[0]? = some (aL wd c l) := by kernel_rfl) (hr : resM P s' fn.results.toList = some r := by kernel_rfl) :
    EndsM P fn wd l0.length (fun i => c (l.getD i default)) r .normal s := ⟨.inl rfl, s', hle, ⟨_, by rw [hH, ← hl]; rfl, fun _ _ => rfl⟩, hr⟩
theorem len_ok {n m : Nat} (h : ∀ b ∈ [decide (n = m)], b = true) : n = m := of_decide_eq_true (h _ List.mem_cons_self)
theorem len_eq {n m : Nat} (h : decide (n = m) = true) : m = n := (of_decide_eq_true h).symm
theorem sp2 {b : Bool} {X Y cs z : List D} (h1 : splice X cs 0 = z) (h2 : splice Y cs 0 = z) : splice (bif b then X else Y) cs 0 = z := by cases b <;> assumption
theorem set2_ext {α : Type} [Inhabited α] (c : α → List D) (l : List α) (k : Nat) (x : α) (e : List D) (he : e = c x) (k2 : Nat) (x2 : α) (e2 : List D) (he2 : e2 = c x2) :
    ∀ i, i < l.length → (bif Nat.beq i k2 then e2 else (bif Nat.beq i k then e else c (l.getD i default))) = c (((l.set k x).set k2 x2).getD i default) := by
  intro i hi
  rw [set_ext c l k x e he i hi]
  exact set_ext c (l.set k x) k2 x2 e2 he2 i (by simpa using hi)

theorem fnM_start {fn : Func} {ds : List D} (hn : ds.length ≤ fn.ntmps) {I0 : Nat → Prop} {w : World} {m : Option Nat} {wd n : Nat} {g : Nat → List D} {vs : Array Value} (hI0 : ∀ b, I0 b → b < w.heap.size) (hm : ∀ b, m = some b → b < w.heap.size ∧ ¬ I0 b)
    (hov : OV (Lctx I0 m (.arr wd n g) w) m (.arr wd n g)) (hvs : Vs (AV (Lctx I0 m (.arr wd n g) w)) vs ds) :
    Rel ⟨w, I0, [m]⟩ ⟨fn.ntmps, initEnv 0 ds, [.arr wd n g, .gone]⟩ { tmps := vs ++ Array.replicate (fn.ntmps - vs.size) undef, defers := [] } w := by
  have hmu : ∀ i b, (Lctx I0 m (.arr wd n g) w).mu i = some b → i = 0 ∧ m = some b := fun i b h => by
    simp only [Lctx] at h
    split at h
    · exact ⟨by assumption, h⟩
    · cases h
  refine ⟨Lctx I0 m (.arr wd n g) w, rfl, rfl, ⟨⟨rfl, rfl, rfl, Nat.le_refl _, fun _ _ _ => rfl, fun k h => ?_⟩, fun b hb => ⟨hI0 b hb, fun _ => hb⟩, fun id b h => ?_, fun i j b h1 h2 => ?_, fun id o h => ?_, fun id hid => ?_, fun i v h => ?_, fun _ => rfl⟩, fun t => ?_, ?_, rfl⟩
  · have h : m = some k := by simp [Fr.lent] at h; exact h.symm
    rcases hov.2 with ⟨h1, _⟩ | ⟨b, cs, T, hb, hh, _⟩
    · rw [h] at h1; cases h1
    · rw [h] at hb; cases hb
      exact ⟨cs, cs, T, hh, hh, rfl⟩
  · obtain ⟨_, h1⟩ := hmu id b h
    exact ⟨.inr (by simp [Fr.lent, h1]), (hm b h1).1, (hm b h1).2⟩
  · rw [(hmu i b h1).1, (hmu j b h2).1]
  · match id, h with
    | 0, h => cases h; exact hov
    | 1, h => cases h; rfl
  · show (if id = 0 then m else none) = none
    have hid : 2 ≤ id := hid
    rw [if_neg (by omega)]
  · match i, h with
    | 0, h => cases h; rfl
  · show TV _ _ (find (initEnv 0 ds) t)
    rcases find_init ds 0 t with h | ⟨_, d, h1, h2⟩
    · rw [h]; exact tv_any
    · rw [h2]
      simp only [Nat.sub_zero] at h1
      have hlt : t < vs.size := by rw [hvs.1]; exact (List.getElem?_eq_some_iff.1 h1).1
      have e : (vs ++ Array.replicate (fn.ntmps - vs.size) undef).getD t undef = vs[t] := by
        rw [Array.getD_eq_getD_getElem?, Array.getElem?_append_left hlt]; simp [hlt]
      rw [e]
      exact tv_of_av (hvs.2 t _ d (by simp [hlt]) h1)
  · simp [hvs.1]; omega

theorem fn_mut {P : Program} {f : FuncId} {fn : Func} {code : Code} {ds : List D} {wd n : Nat} {g g' : Nat → List D} {r : D} (hf : P.funcs[f]? = some fn) (hb : fn.body = some code) (hn : Nat.ble ds.length fn.ntmps = true)
    (h : AWP P code (EndsM P fn wd n g' r) ⟨fn.ntmps, initEnv 0 ds, [.arr wd n g, .gone]⟩) : FnM P f ds wd n g g' r := by
  intro I0 w m vs hI0 hm hov hvs
  refine calls_of_wp hf hb (wp_mono (h ⟨w, I0, [m]⟩ _ w (fnM_start (Nat.le_of_ble_eq_true hn) hI0 hm hov hvs)) ?_)
  rintro e a' w' ⟨s0, ⟨he, s', hle, ⟨f', hH0, hext⟩, hres⟩, hrel0⟩
  obtain ⟨c, rfl, hH, hI, henv, hsz, hdef⟩ := hle _ _ _ hrel0
  have hm0 : c.mu 0 = m := hI.lent 0 m rfl
  have hob := hI.obj 0 _ (by rw [hH]; exact hH0)
  rw [hm0] at hob
  have hov' : OV (Lctx c.I m (.arr wd n g') c.w) m (.arr wd n g') := by
    refine ⟨fun i hi => by rw [← hext i hi]; exact hob.1 i hi, hob.2.imp (fun x => x) ?_⟩
    rintro ⟨b, cs, T, h1, h2, h3, h4⟩
    exact ⟨b, cs, T, h1, h2, h3, fun i hi j d hd => h4 i hi j d (by rw [hext i hi]; exact hd)⟩
  have key : ∃ v, (results fn a'.tmps).run P c.w = .ok v c.w ∧ TV (Lctx c.I m (.arr wd n g') c.w) v r := by
    unfold resM at hres
    split at hres
    · rename_i d0 hl
      cases hp : retB d0 with
      | false => simp [hp] at hres
      | true =>
        simp only [hp, cond_true, Option.some.injEq] at hres
        subst hres
        obtain ⟨us, h1, h2, h3⟩ := resL_ok (P := P) hI hH henv _ _ hl
        match us, h2 with
        | [v], _ =>
          have h4 := h3 0 v d0 rfl rfl
          refine ⟨v, by rw [results_run h1]; rfl, ?_⟩
          unfold retB at hp
          split at hp
          · simp only [TV, AV, CV] at h4 ⊢
            obtain ⟨wd1, n1, f1, a1, cap1, hh, h5, h6, h7, h8⟩ := h4
            rw [hH, hH0] at hh
            cases hh
            exact ⟨wd, n, g', a1, cap1, rfl, h5, h6, h7, h8.imp (fun x => x) fun ⟨b, hb1, hb2, hb3⟩ => ⟨b, by rw [hm0] at hb1; exact hb1, hb2, hb3⟩⟩
          · exact scalar_tv hp h4
    · rename_i ds0 hne hl
      cases hp : ds0.all scalarC with
      | false => simp [hp] at hres
      | true =>
        simp only [hp, cond_true, Option.some.injEq] at hres
        subst hres
        obtain ⟨us, h1, h2, h3⟩ := resL_ok (P := P) hI hH henv _ _ hl
        refine ⟨.tuple us.toArray, ?_, ?_⟩
        · rw [results_run h1]
          have : ¬ us.toArray.size = 1 := by
            intro h1
            simp [h2] at h1
            match ds0, h1 with
            | [d1], _ => exact hne d1 rfl
          rw [dif_neg this]
        · refine scalar_tv (c := c) (by simpa [scalarB] using hp) ⟨us.toArray, rfl, by simp [h2], fun i v d' h4 h5 => ?_⟩
          have h6 := h3 i v d' (by simpa using h4) h5
          have hsc := List.all_eq_true.1 hp d' (List.mem_of_getElem? h5)
          cases d' <;> simp [scalarC] at hsc <;> exact h6
    · cases hres
  obtain ⟨v, hv1, hv2⟩ := key
  have post : ∃ v' I1, Ending.returned v = .returned v' ∧ Bel ⟨w, I0, [m]⟩ c.w ∧ Fresh I0 w c.w I1 ∧ OV (Lctx I1 m (.arr wd n g') c.w) m (.arr wd n g') ∧ TV (Lctx I1 m (.arr wd n g') c.w) v' r := by
    refine ⟨v, c.I, rfl, hI.below, fun b hb => ?_, hov', hv2⟩
    rcases Nat.lt_or_ge b w.heap.size with h1 | h1
    · exact .inl ((hI.imm b hb).2 h1)
    · exact .inr ⟨h1, (hI.imm b hb).1⟩
  rcases he with rfl | rfl
  · exact ⟨hdef, v, hv1, post⟩
  · exact ⟨hdef, v, hv1, post⟩

/-- An end that is told in other words. -/
theorem awp_ends_le {P : Program} {c : Code} {Q : Exit → St → Prop} {s : St} (h : AWP P c (fun e s => ∃ s', Le s s' ∧ Q e s') s) : AWP P c Q s :=
  fun F a w hR => wp_mono (h F a w hR) fun _ _ _ ⟨_, ⟨s', h1, h2⟩, h3⟩ => ⟨s', h2, h1 _ _ _ h3⟩
theorem nq {P : Program} {Q : Exit → St → Prop} {s : St} {c : Operand} {x y : Code} (n : Nat) (ht : n = 0 → AWP P x Q s) (hf : AWP P y Q s) (hc : evD s.env c = .nilq n := by kernel_rfl) : AWP P (.cond c x y) Q s := awp_nilq hc ht hf
theorem sub_nil0 {α : Type} [Inhabited α] {full : Bool} {wd wd' : Nat} {f : Nat → List D} {c : α → List D} {l : List α} (h : l.length = 0) : Sub (.sl full wd 0 f) (sL wd' c l) := by
  obtain rfl := List.eq_nil_of_length_eq_zero h
  exact sub_nil

theorem rgw {P : Program} {Q : Exit → St → Prop} {s : St} {id : Nat} {ops : Array Oper} (orc : List Res) (keep : List Nat) (hn : Nat) (s' : St) (bs : List Bool) (rq : List Req)
    (hb : ∀ b ∈ bs, b = true) (hq : Reqs P rq) (k : Q .normal s') (h : regW P ops orc keep hn s = some (s', bs, rq) := by kernel_rfl) : AWP P (.region id ops true) Q s := awp_regionW orc keep hn h hb hq.all k

/-! recursion: the mirror by its number of steps down -/
open Classical in
noncomputable def recM {α β : Type} (f : Nat → α → Option β) (x : α) : Option β := if h : ∃ n y, f n x = some y then f h.choose x else none
theorem recM_some {α β : Type} {f : Nat → α → Option β} {x : α} {y : β} (h : recM f x = some y) : ∃ n, f n x = some y := by
  unfold recM at h
  split at h
  · rename_i hx
    exact ⟨hx.choose, h⟩
  · cases h
end Nv
