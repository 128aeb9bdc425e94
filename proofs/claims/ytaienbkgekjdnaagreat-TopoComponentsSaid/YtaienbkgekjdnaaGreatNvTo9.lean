/- Components: the least router that can be reached; the reference's rounds find it. No condition but the bounds of what comes in. -/
import Derived.Test.YtaienbkgekjdnaaGreatNvTo8
set_option maxRecDepth 100000
namespace Nv
open Go
def Adj (v : Xq) (r s : Nat) : Prop := r < v.X5.Zd.length ∧ ∃ i e, i < nif v.X5 r ∧ e ∈ nbs v ((r : Int), (i : Int)) ∧ e.Xp = (s : Int)
inductive RchV (v : Xq) : Nat → Nat → Prop
  | refl (r : Nat) : RchV v r r
  | step {r s t : Nat} (h : Adj v r s) (k : RchV v s t) : RchV v r t
theorem RchV.trans {v : Xq} {r s t : Nat} (h : RchV v r s) (k : RchV v s t) : RchV v r t := by
  induction h with
  | refl => exact k
  | step a _ ih => exact .step a (ih k)
theorem Zd0 {v : Xq} (h : VF v) {e : DEnd} {x : Qo} (hx : x ∈ nbs v e) : ∃ r i, r < v.X5.Zd.length ∧ i < nif v.X5 r ∧ x.Xp = (r : Int) ∧ x.J2 = (i : Int) := by
  obtain ⟨_, k, h1, _, _, h4, _⟩ := (Rb h).1 hx
  obtain ⟨r, i, g1, g2, _, _, g5, g6⟩ := h.inN (V4 h1) h4
  exact ⟨r, i, g1, g2, g5, g6⟩
theorem ZhB {v : Xq} (h : VF v) {r s : Nat} (a : Adj v r s) : s < v.X5.Zd.length := by
  obtain ⟨_, i, e, _, h2, h3⟩ := a
  obtain ⟨r', i', g1, _, g3, _⟩ := Zd0 h h2
  omega
theorem Zkd {v : Xq} (h : VF v) {r s : Nat} (a : Adj v r s) : Adj v s r := by
  have hs := ZhB h a
  obtain ⟨h0, i, e, h1, h2, h3⟩ := a
  obtain ⟨r', i', g1, g2, g3, g4⟩ := Zd0 h h2
  obtain rfl : s = r' := by omega
  refine ⟨hs, i', ⟨(r : Int), (i : Int)⟩, g2, ?_, rfl⟩
  obtain ⟨hu, k, k1, k2, k3, k4, k5⟩ := (Rb h).1 h2
  have hd : dend e = ((s : Int), (i' : Int)) := by unfold dend; rw [g3, g4]
  rw [hd] at k4
  have k6 := h.domI_eq k1 k4
  refine (Rb h).2 ⟨?_, k, k1, k6, k4, k3, fun x => k5 ?_⟩
  · unfold upV at hu ⊢
    rw [k6, ← k2]
    exact hu
  · rw [g3]; exact x.symm
theorem ZiX {v : Xq} (h : VF v) {r s : Nat} (k : RchV v r s) : RchV v s r := by
  induction k with
  | refl => exact .refl _
  | step a _ ih => exact ih.trans (.step (Zkd h a) (.refl _))
structure Least (v : Xq) (r m : Nat) : Prop where
  reach : RchV v r m
  min : ∀ s, RchV v r s → m ≤ s
theorem Zg1 (v : Xq) (r : Nat) : ∃ m, Least v r m := by
  have key : ∀ s, RchV v r s → ∃ m, Least v r m := fun s => by
    induction s using Nat.strongRecOn with
    | _ s ih =>
      intro hs
      by_cases hx : ∃ t, t < s ∧ RchV v r t
      · obtain ⟨t, h1, h2⟩ := hx
        exact ih t h1 h2
      · exact ⟨s, hs, fun t ht => by
          rcases Nat.lt_or_ge t s with g | g
          · exact absurd ⟨t, g, ht⟩ hx
          · exact g⟩
  exact key r (.refl r)
noncomputable def least (v : Xq) (r : Nat) : Nat := (Zg1 v r).choose
theorem Uu (v : Xq) (r : Nat) : Least v r (least v r) := (Zg1 v r).choose_spec
theorem ZeT {v : Xq} (h : VF v) {r s : Nat} (k : RchV v r s) : least v r = least v s := by
  have h1 := Uu v r
  have h2 := Uu v s
  have h3 := h1.min _ (k.trans h2.reach)
  have h4 := h2.min _ ((ZiX h k).trans h1.reach)
  omega
def IsC (v : Xq) (c : List Int) : Prop := c.length = v.X5.Zd.length ∧ ∀ r, r < v.X5.Zd.length → c.getD r default = (least v r : Int)
theorem Zke {v : Xq} {c d : List Int} (h : IsC v c) (k : IsC v d) : c = d := by
  apply List.ext_getElem (by rw [h.1, k.1])
  intro i h1 h2
  have g1 := h.2 i (by rw [← h.1]; exact h1)
  have g2 := k.2 i (by rw [← h.1]; exact h1)
  rw [List.getD_eq_getElem?_getD, List.getElem?_eq_getElem h1] at g1
  rw [List.getD_eq_getElem?_getD, List.getElem?_eq_getElem h2] at g2
  simp only [Option.getD_some] at g1 g2
  rw [g1, g2]
structure Good (v : Xq) (c : List Int) : Prop where
  len : c.length = v.X5.Zd.length
  val : ∀ r, r < v.X5.Zd.length → ∃ m : Nat, c.getD r default = (m : Int) ∧ m ≤ r ∧ RchV v r m
def leL (v : Xq) (c d : List Int) : Prop := ∀ r, r < v.X5.Zd.length → c.getD r default ≤ d.getD r default
theorem ZeU (v : Xq) (c : List Int) : leL v c c := fun _ _ => Int.le_refl _
theorem Zda {v : Xq} {c d e : List Int} (h : leL v c d) (k : leL v d e) : leL v c e := fun r hr => Int.le_trans (h r hr) (k r hr)
theorem Gp {c : List Int} {r : Nat} (h : r < c.length) (x : Int) : (c.set r x).getD r default = x := by
  rw [List.getD_eq_getElem?_getD, List.getElem?_set_self h]; rfl
theorem U8 {c : List Int} {r s : Nat} (h : r ≠ s) (x : Int) : (c.set r x).getD s default = c.getD s default := by
  rw [List.getD_eq_getElem?_getD, List.getD_eq_getElem?_getD, List.getElem?_set_ne h]
theorem Good.set {v : Xq} {c : List Int} (h : Good v c) {r m : Nat} (hr : r < v.X5.Zd.length) (hm : m ≤ r) (k : RchV v r m) : Good v (c.set r (m : Int)) where
  len := by rw [List.length_set]; exact h.len
  val s hs := by
    by_cases e : r = s
    · subst e
      exact ⟨m, Gp (by rw [h.len]; exact hr) _, hm, k⟩
    · rw [U8 e]; exact h.val s hs
theorem Zk5 {v : Xq} {c : List Int} (h : Good v c) {r : Nat} (hr : r < v.X5.Zd.length) {x : Int} (hx : x ≤ c.getD r default) : leL v (c.set r x) c := fun s _ => by
  by_cases e : r = s
  · subst e; rw [Gp (by rw [h.len]; exact hr)]; exact hx
  · rw [U8 e]; exact Int.le_refl _
theorem Good.ge {v : Xq} {c : List Int} (h : Good v c) {r : Nat} (hr : r < v.X5.Zd.length) : (least v r : Int) ≤ c.getD r default := by
  obtain ⟨m, h1, _, h3⟩ := h.val r hr
  have := (Uu v r).min m h3
  rw [h1]; omega
noncomputable def badL (v : Xq) (c : List Int) : Nat := ((List.range v.X5.Zd.length).filter fun r => decide (c.getD r default ≠ (least v r : Int))).length
theorem Zgd {α : Type} {p q : α → Bool} : ∀ {l : List α}, (∀ x ∈ l, q x = true → p x = true) → (l.filter q).length ≤ (l.filter p).length
  | [], _ => Nat.le_refl _
  | x :: l, h => by
    have ih := Zgd (l := l) fun y hy => h y (List.mem_cons_of_mem _ hy)
    have hx := h x List.mem_cons_self
    rw [List.filter_cons, List.filter_cons]
    cases hq : q x with
    | true => rw [hx hq]; simp; exact ih
    | false => cases p x <;> simp <;> omega
theorem Zib {α : Type} {p q : α → Bool} {z : α} : ∀ {l : List α}, (∀ x ∈ l, q x = true → p x = true) → z ∈ l → p z = true → q z = false → (l.filter q).length < (l.filter p).length
  | [], _, hz, _, _ => by cases hz
  | x :: l, h, hz, h1, h2 => by
    have hl := Zgd (l := l) fun y hy => h y (List.mem_cons_of_mem _ hy)
    have hx := h x List.mem_cons_self
    rw [List.filter_cons, List.filter_cons]
    rcases List.mem_cons.1 hz with e | hz
    · subst e
      rw [h1, h2]; simp; omega
    · have ih := Zib (l := l) (fun y hy => h y (List.mem_cons_of_mem _ hy)) hz h1 h2
      cases hq : q x with
      | true => rw [hx hq]; simp; exact ih
      | false => cases p x <;> simp <;> omega
theorem ZlI {v : Xq} {c : List Int} : badL v c ≤ v.X5.Zd.length := Nat.le_trans (List.length_filter_le _ _) (by simp)
theorem Zkf {v : Xq} {c : List Int} (h : Good v c) (hb : badL v c = 0) : IsC v c := by
  refine ⟨h.len, fun r hr => ?_⟩
  unfold badL at hb
  have h1 := List.eq_nil_of_length_eq_zero hb
  rw [List.filter_eq_nil_iff] at h1
  have := h1 r (List.mem_range.2 hr)
  simpa using this
theorem Zk6 {v : Xq} (h : VF v) {c : List Int} (hc : Good v c) {r m : Nat} (k : RchV v r m) (hm : m = least v r) (hr : r < v.X5.Zd.length) (hn : c.getD r default ≠ (least v r : Int)) : ∃ a b, Adj v a b ∧ c.getD a default ≠ (least v a : Int) ∧ c.getD b default = (least v b : Int) := by
  induction k with
  | refl r =>
    exfalso
    obtain ⟨m, h1, h2, h3⟩ := hc.val r hr
    have := (Uu v r).min m h3
    exact hn (by rw [h1]; omega)
  | step a k ih =>
    rename_i r s t
    have hs := ZhB h a
    by_cases e : c.getD s default = (least v s : Int)
    · exact ⟨r, s, a, hn, e⟩
    · exact ih (by rw [hm]; exact ZeT h (.step a (.refl _))) hs e
theorem ZiY {v : Xq} (h : VF v) {c d : List Int} (hc : Good v c) (hd : Good v d) (hl : leL v d c) (hs : ∀ a b, Adj v a b → d.getD a default ≤ c.getD b default) {k : Nat} (hb : badL v c ≤ k + 1) : badL v d ≤ k := by
  have hsub : ∀ r ∈ List.range v.X5.Zd.length, decide (d.getD r default ≠ (least v r : Int)) = true → decide (c.getD r default ≠ (least v r : Int)) = true := fun r hr h1 => by
    have hr := List.mem_range.1 hr
    rw [decide_eq_true_eq] at h1 ⊢
    intro e
    have g1 := hl r hr
    have g2 := hd.ge hr
    rw [e] at g1
    exact h1 (by omega)
  by_cases h0 : badL v c = 0
  · have := Zgd hsub
    unfold badL at h0 ⊢
    omega
  · have hex : ∃ r, r < v.X5.Zd.length ∧ c.getD r default ≠ (least v r : Int) := by
      unfold badL at h0
      obtain ⟨r, hr⟩ := List.exists_mem_of_length_pos (Nat.pos_of_ne_zero h0)
      simp only [List.mem_filter, List.mem_range, decide_eq_true_eq] at hr
      exact ⟨r, hr.1, hr.2⟩
    obtain ⟨r, hr, hne⟩ := hex
    obtain ⟨a, b, e1, e2, e3⟩ := Zk6 h hc (Uu v r).reach rfl hr hne
    have ha : a < v.X5.Zd.length := e1.1
    have hda : d.getD a default = (least v a : Int) := by
      have g1 := hs a b e1
      have g2 := hd.ge ha
      rw [e3, ← ZeT h (.step e1 (.refl b))] at g1
      omega
    have := Zib hsub (List.mem_range.2 ha) (decide_eq_true e2) (decide_eq_false (by rw [hda]; simp))
    unfold badL at hb ⊢
    omega
theorem Zic {v : Xq} (h : VF v) {f : List Int × Int → Option ((List Int × Int) ⊕ List Int)} (step : ∀ (c : List Int) (i : Nat), i < v.X5.Zd.length → c.length = v.X5.Zd.length → f (c, (i : Int)) = some (.inl (c.set i (i : Int), ((i + 1 : Nat) : Int))))
    (out : ∀ c, f (c, (v.X5.Zd.length : Int)) = some (.inr c)) : ∃ c, loopM f (List.replicate v.X5.Zd.length (0 : Int), 0) = some c ∧ Good v c := by
  refine Wj (f := f) (σ := List Int) (fun i c => (c, (i : Int))) v.X5.Zd.length (fun i c => c.length = v.X5.Zd.length ∧ ∀ j, j < i → c.getD j default = (j : Int)) (Good v)
    (fun i c hi hJ => .inl ⟨_, step c i hi hJ.1, by rw [List.length_set]; exact hJ.1, fun j hj => ?_⟩) (fun c hJ => ⟨_, out c, hJ.1, fun r hr => ⟨r, hJ.2 r hr, Nat.le_refl _, .refl r⟩⟩) v.X5.Zd.length 0 _ (by omega) ⟨by simp, fun j hj => by omega⟩
  by_cases e : i = j
  · subst e; rw [Gp (by rw [hJ.1]; exact hi)]
  · rw [U8 e]; exact hJ.2 j (by omega)
section
variable {v : Xq}
theorem ZlN (h : VF v) {r i : Nat} (hr : r < v.X5.Zd.length) (hi : i < nif v.X5 r) (q : List Int) {c : List Int} (hc : Good v c) :
    ∃ d, loopM (M.Ve (q, (r : Int)) (nbs v ((r : Int), (i : Int)))) (c, 0) = some d ∧ Good v d ∧ leL v d c ∧ ∀ e ∈ nbs v ((r : Int), (i : Int)), d.getD r default ≤ c.getD e.Xp.toNat default := by
  have hn : (nbs v ((r : Int), (i : Int))).length ≤ 108 := by
    unfold nbs
    cases upV v ((r : Int), (i : Int)) with
    | false => exact Nat.zero_le _
    | true =>
      rw [cond_true]
      refine Nat.le_trans (List.length_filter_le _ _) ?_
      rcases Nat.lt_or_ge (domI v ((r : Int), (i : Int))).toNat v.ZV.Zv.length with hk | hk
      · exact h.ends (V4 hk)
      · rw [List.getD_eq_getElem?_getD, List.getElem?_eq_none hk]
        exact Nat.zero_le _
  have hin : ∀ z ∈ nbs v ((r : Int), (i : Int)), ∃ s, s < v.X5.Zd.length ∧ z.Xp = (s : Int) ∧ Adj v r s := fun z hz => by
    obtain ⟨s, _, g1, _, g3, _⟩ := Zd0 h hz
    exact ⟨s, g1, g3, hr, i, z, hi, hz, g3⟩
  revert hn hin
  generalize nbs v ((r : Int), (i : Int)) = l
  intro hn hin
  refine Wj (f := M.Ve (q, (r : Int)) l) (σ := List Int) (fun j d => (d, (j : Int))) l.length (fun j d => Good v d ∧ leL v d c ∧ ∀ e ∈ l.take j, d.getD r default ≤ c.getD e.Xp.toNat default) (fun d => Good v d ∧ leL v d c ∧ ∀ e ∈ l, d.getD r default ≤ c.getD e.Xp.toNat default)
    (fun j d hj hJ => ?_) (fun d hJ => ?_) l.length 0 c (by omega) ⟨hc, ZeU v c, fun e he => by simp at he⟩
  · left
    obtain ⟨g1, g2, g3⟩ := hJ
    have hlj : l[j] = l.getD j default := by rw [List.getD_eq_getElem?_getD, List.getElem?_eq_getElem hj]; rfl
    have hm : l.getD j default ∈ l := by rw [← hlj]; exact List.getElem_mem hj
    obtain ⟨s, k1, k2, k3⟩ := hin _ hm
    have q1 : decide ((0 : Int) ≤ (j : Int)) = true := dt (by omega)
    have q2 : decide ((j : Int) < (l.length : Int)) = true := dt (by omega)
    have q3 : decide ((0 : Int) ≤ (r : Int)) = true := dt (by omega)
    have q4 : decide ((r : Int) < (d.length : Int)) = true := dt (by rw [g1.len]; omega)
    have q5 : decide ((0 : Int) ≤ (s : Int)) = true := dt (by omega)
    have q6 : decide ((s : Int) < (d.length : Int)) = true := dt (by rw [g1.len]; omega)
    obtain ⟨m1, a1, a2, a3⟩ := g1.val r hr
    obtain ⟨m2, b1, b2, b3⟩ := g1.val s k1
    have hreach : RchV v r m2 := .step k3 b3
    have hmin : ∃ m : Nat, (if d.getD s default < d.getD r default then d.getD s default else d.getD r default) = (m : Int) ∧ m ≤ r ∧ RchV v r m ∧ (m : Int) ≤ d.getD r default ∧ (m : Int) ≤ d.getD s default := by
      by_cases e : d.getD s default < d.getD r default
      · rw [if_pos e]; exact ⟨m2, b1, by omega, hreach, by omega, by omega⟩
      · rw [if_neg e]; exact ⟨m1, a1, a2, a3, by omega, by omega⟩
    obtain ⟨m, e1, e2, e3, e4, e5⟩ := hmin
    refine ⟨d.set r (m : Int), ?_, g1.set hr e2 e3, Zda (Zk5 g1 hr e4) g2, fun e he => ?_⟩
    · unfold M.Ve
      simp only [q1, q2, q3, q4, q5, q6, k2, Int.toNat_natCast, Nat.zero_add, gd, List.all_cons, List.all_nil, id, Bool.and_self, Bool.and_true, cond_true, e1]
      rw [up64 (n := 2000) (by omega) (by omega)]
    · rw [Gp (by rw [g1.len]; exact hr)]
      rw [List.take_add_one, List.getElem?_eq_getElem hj] at he
      rcases List.mem_append.1 he with he | he
      · have := g3 e he
        omega
      · have he : e = l[j] := by simpa using he
        rw [he, hlj, k2, Int.toNat_natCast]
        have := g2 s k1
        omega
  · unfold M.Ve
    simp only [Int.lt_irrefl, decide_false, cond_false]
    rw [List.take_length] at hJ
    exact ⟨d, rfl, hJ⟩
theorem ZlO (h : VF v) {r : Nat} (hr : r < v.X5.Zd.length) (q : List Int) {c : List Int} (hc : Good v c) :
    ∃ d, loopM (M.Vf v (q, (r : Int))) (c, 0) = some d ∧ Good v d ∧ leL v d c ∧ ∀ i, i < nif v.X5 r → ∀ e ∈ nbs v ((r : Int), (i : Int)), d.getD r default ≤ c.getD e.Xp.toNat default := by
  have hI := h.ni r
  have r1 : decide ((0 : Int) ≤ (r : Int)) = true := dt (by omega)
  have r2 : decide ((r : Int) < (v.X5.Zd.length : Int)) = true := dt (by omega)
  refine Wj (f := M.Vf v (q, (r : Int))) (σ := List Int) (fun j d => (d, (j : Int))) (nif v.X5 r) (fun j d => Good v d ∧ leL v d c ∧ ∀ i, i < j → ∀ e ∈ nbs v ((r : Int), (i : Int)), d.getD r default ≤ c.getD e.Xp.toNat default) (fun d => Good v d ∧ leL v d c ∧ ∀ i, i < nif v.X5 r → ∀ e ∈ nbs v ((r : Int), (i : Int)), d.getD r default ≤ c.getD e.Xp.toNat default)
    (fun j d hj hJ => ?_) (fun d hJ => ?_) (nif v.X5 r) 0 c (by omega) ⟨hc, ZeU v c, fun i hi => by omega⟩
  · left
    obtain ⟨g1, g2, g3⟩ := hJ
    obtain ⟨d', k1, k2, k3, k4⟩ := ZlN h hr hj q g1
    have j2 : decide ((j : Int) < (((v.X5.Zd.getD r default).Zc).length : Int)) = true := dt (Int.ofNat_lt.2 hj)
    refine ⟨d', ?_, k2, Zda k3 g2, fun i hi e he => ?_⟩
    · unfold M.Vf
      simp only [gd, List.all_cons, List.all_nil, id, Bool.and_self, Bool.and_true, cond_true, r1, r2, Int.toNat_natCast, j2, ZlM h, Option.bind_some, k1]
      rw [up64 (n := 2000) (by omega) (by omega)]
    · rcases Nat.lt_or_ge i j with g | g
      · have := g3 i g e he
        have := k3 r hr
        omega
      · obtain rfl : i = j := by omega
        have u1 := k4 e he
        obtain ⟨s, _, w1, _, w3, _⟩ := Zd0 h he
        have u2 := g2 s w1
        rw [w3, Int.toNat_natCast] at u1 ⊢
        omega
  · unfold M.Vf
    simp only [gd, List.all_cons, List.all_nil, id, Bool.and_self, Bool.and_true, cond_true, r1, r2, Int.toNat_natCast]
    rw [decide_eq_false (show ¬ ((nif v.X5 r : Int) < (((v.X5.Zd.getD r default).Zc).length : Int)) from fun h => Nat.lt_irrefl _ (Int.ofNat_lt.1 h)), cond_false]
    exact ⟨d, rfl, hJ⟩
theorem ZlP (h : VF v) {c : List Int} (hc : Good v c) :
    ∃ d, loopM (M.Vg v) (c, 0) = some d ∧ Good v d ∧ leL v d c ∧ ∀ a b, Adj v a b → d.getD a default ≤ c.getD b default := by
  have hR := h.nr
  refine Wj (f := M.Vg v) (σ := List Int) (fun j d => (d, (j : Int))) v.X5.Zd.length (fun j d => Good v d ∧ leL v d c ∧ ∀ a, a < j → ∀ b, Adj v a b → d.getD a default ≤ c.getD b default) (fun d => Good v d ∧ leL v d c ∧ ∀ a b, Adj v a b → d.getD a default ≤ c.getD b default)
    (fun j d hj hJ => ?_) (fun d hJ => ?_) v.X5.Zd.length 0 c (by omega) ⟨hc, ZeU v c, fun i hi => by omega⟩
  · left
    obtain ⟨g1, g2, g3⟩ := hJ
    obtain ⟨d', k1, k2, k3, k4⟩ := ZlO h hj d g1
    have j2 : decide ((j : Int) < (v.X5.Zd.length : Int)) = true := dt (by omega)
    refine ⟨d', ?_, k2, Zda k3 g2, fun a ha b hab => ?_⟩
    · unfold M.Vg
      simp only [j2, cond_true, k1, Option.bind_some]
      rw [up64 (n := 2000) (by omega) (by omega)]
    · rcases Nat.lt_or_ge a j with g | g
      · have := g3 a g b hab
        have := k3 a hab.1
        omega
      · obtain rfl : a = j := by omega
        have hb := ZhB h hab
        obtain ⟨_, i, e, w1, w2, w3⟩ := hab
        have := k4 i w1 e w2
        rw [w3, Int.toNat_natCast] at this
        have := g2 b hb
        omega
  · unfold M.Vg
    simp only [Int.lt_irrefl, decide_false, cond_false]
    exact ⟨d, rfl, hJ.1, hJ.2.1, fun a b hab => hJ.2.2 a hab.1 b hab⟩
theorem Zlc (h : VF v) : ∃ c, M.V3 v = some c ∧ IsC v c := by
  have hR := h.nr
  unfold M.V3
  simp only [Int.toNat_natCast]
  rw [QJ (k := rfl) (ZD (dt (by omega)) (ZD (dt (by omega)) (ZD (dt (by omega)) (ZD (dt (by omega)) Yc))))]
  obtain ⟨c, h1, h2⟩ := Zic h (f := M.VP v) (fun c i hi hc => by
    have q1 : decide ((0 : Int) ≤ (i : Int)) = true := dt (by omega)
    have q2 : decide ((i : Int) < (v.X5.Zd.length : Int)) = true := dt (by omega)
    unfold M.VP
    simp only [q1, q2, hc, gd, List.all_cons, List.all_nil, id, Bool.and_self, Bool.and_true, cond_true, Int.toNat_natCast, Nat.zero_add]
    rw [up64 (n := 2000) (by omega) (by omega)]) (fun c => by
    unfold M.VP
    simp only [Int.lt_irrefl, decide_false, cond_false])
  rw [h1]
  simp only [Option.bind_some]
  obtain ⟨d, k1, k2⟩ := Wj (f := M.Vh v) (σ := List Int) (fun j d => (d, (j : Int))) v.X5.Zd.length (fun j d => Good v d ∧ badL v d ≤ v.X5.Zd.length - j) (IsC v)
    (fun j d hj hJ => .inl (by
      obtain ⟨d', g1, g2, g3, g4⟩ := ZlP h hJ.1
      have j2 : decide ((j : Int) < (v.X5.Zd.length : Int)) = true := dt (by omega)
      refine ⟨d', ?_, g2, ?_⟩
      · unfold M.Vh
        simp only [j2, cond_true, g1, Option.bind_some]
        rw [up64 (n := 2000) (by omega) (by omega)]
      · exact ZiY h hJ.1 g2 g3 g4 (by have := hJ.2; omega)))
    (fun d hJ => by
      refine ⟨d, ?_, Zkf hJ.1 (by have := hJ.2; omega)⟩
      unfold M.Vh
      simp only [Int.lt_irrefl, decide_false, cond_false]) v.X5.Zd.length 0 c (by omega) ⟨h2, ZlI⟩
  rw [show loopM (M.Vh v) (c, 0) = some d from k1]
  exact ⟨d, rfl, k2⟩
end
end Nv
