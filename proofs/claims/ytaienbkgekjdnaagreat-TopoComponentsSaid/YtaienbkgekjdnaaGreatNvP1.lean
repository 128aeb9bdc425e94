/- The plain law of TopoComponents. No condition but the bounds of what comes in. -/
import Derived.Test.YtaienbkgekjdnaaGreatNvTo9
import Derived.Test.YtaienbkgekjdnaaGreatNvT2
set_option maxRecDepth 100000
namespace Nv
open Go
def mu : List Int → Nat
  | [] => 0
  | x :: l => x.toNat + mu l
theorem Zkg : ∀ {c : List Int} {r : Nat}, r < c.length → ∀ x : Int, mu (c.set r x) + (c.getD r default).toNat = mu c + x.toNat
  | [], r, h, _ => by simp at h
  | y :: l, 0, _, x => by simp [mu]; omega
  | y :: l, r + 1, h, x => by
    have := Zkg (c := l) (r := r) (by simpa using h) x
    simp only [List.set_cons_succ, mu, List.getD_cons_succ]
    omega
section
variable {v : Xq}
def rnE (e : Qo) : Nat := e.Xp.toNat
theorem Zk7 (h : VF v) {c : List Int} (hc : Good v c) {es : List Qo} (hb : es.length ≤ 108) (hin : ∀ e ∈ es, rnE e < v.X5.Zd.length ∧ e.Xp = (rnE e : Int)) (hcon : ∀ e ∈ es, ∀ e' ∈ es, RchV v (rnE e) (rnE e')) :
    ∃ d ch, M.Ku c es = some (d, ch) ∧ Good v d ∧ mu d ≤ mu c ∧ (ch = true → mu d < mu c) ∧ (ch = false → d = c ∧ ∀ e ∈ es, ∀ e' ∈ es, c.getD (rnE e) default = c.getD (rnE e') default) := by
  have hR := h.nr
  have hcl := hc.len
  have hget : ∀ {j : Nat}, j < es.length → es.getD j default ∈ es := fun {j} hj => by rw [List.getD_eq_getElem?_getD, List.getElem?_eq_getElem hj]; exact List.getElem_mem hj
  have htk : ∀ {j : Nat}, j < es.length → es.take (j + 1) = es.take j ++ [es.getD j default] := fun {j} hj => by
    rw [List.take_add_one, List.getD_eq_getElem?_getD, List.getElem?_eq_getElem hj]; rfl
  -- the least
  have hm : ∃ m : Int, loopM (M.Ux c es) ((c.length : Int), 0) = some m ∧ (∀ e ∈ es, m ≤ c.getD (rnE e) default) ∧ (m = (c.length : Int) ∨ ∃ e ∈ es, m = c.getD (rnE e) default) := by
    refine Wj (f := M.Ux c es) (σ := Int) (fun j x => (x, (j : Int))) es.length (fun j x => (∀ e ∈ es.take j, x ≤ c.getD (rnE e) default) ∧ (x = (c.length : Int) ∨ ∃ e ∈ es.take j, x = c.getD (rnE e) default)) (fun m => (∀ e ∈ es, m ≤ c.getD (rnE e) default) ∧ (m = (c.length : Int) ∨ ∃ e ∈ es, m = c.getD (rnE e) default))
      (fun j x hj hJ => ?_) (fun x hJ => ?_) es.length 0 _ (by omega) ⟨fun e he => by simp at he, .inl rfl⟩
    · left
      obtain ⟨k1, k2⟩ := hin _ (hget hj)
      have q1 : decide ((0 : Int) ≤ (j : Int)) = true := dt (by omega)
      have q2 : decide ((j : Int) < (es.length : Int)) = true := dt (by omega)
      have q3 : decide (((rnE (es.getD j default) : Nat) : Int) ≥ 0) = true := dt (by omega)
      have q4 : decide (((rnE (es.getD j default) : Nat) : Int) < (c.length : Int)) = true := dt (by omega)
      have q5 : decide ((0 : Int) ≤ ((rnE (es.getD j default) : Nat) : Int)) = true := dt (by omega)
      refine ⟨(if c.getD (rnE (es.getD j default)) default < x then c.getD (rnE (es.getD j default)) default else x), ?_, ?_, ?_⟩
      · unfold M.Ux M.U2
        simp only [Int.toNat_natCast, k2, q1, q2, q3, q4, q5, Nat.zero_add, gd, List.all_cons, List.all_nil, id, Bool.and_self, Bool.and_true, cond_true]
        rw [up64 (n := 2000) (by omega) (by omega)]
      · intro e he
        rw [htk hj] at he
        rcases List.mem_append.1 he with g | g
        · have := hJ.1 e g
          split <;> omega
        · rw [List.mem_singleton.1 g]
          split <;> omega
      · by_cases g : c.getD (rnE (es.getD j default)) default < x
        · rw [if_pos g]
          exact .inr ⟨es.getD j default, by rw [htk hj]; simp, rfl⟩
        · rw [if_neg g]
          rcases hJ.2 with g2 | ⟨e, g2, g3⟩
          · exact .inl g2
          · exact .inr ⟨e, by rw [htk hj]; exact List.mem_append_left _ g2, g3⟩
    · unfold M.Ux
      simp only [Int.lt_irrefl, decide_false, cond_false]
      rw [List.take_length] at hJ
      exact ⟨x, rfl, hJ⟩
  obtain ⟨m, hm1, hm2, hm3⟩ := hm
  have hm0 : 0 ≤ m := by
    rcases hm3 with g | ⟨e, g1, g2⟩
    · omega
    · obtain ⟨x, w1, _, _⟩ := hc.val _ (hin e g1).1
      omega
  have hs := Wj (f := M.W1 es m) (σ := List Int × Bool) (fun j s => (s.1, s.2, (j : Int))) es.length
    (fun j s => s.1.length = c.length ∧ (∀ r, r < v.X5.Zd.length → (s.1.getD r default = m ∧ ∃ e ∈ es, rnE e = r) ∨ s.1.getD r default = c.getD r default) ∧ mu s.1 ≤ mu c ∧ (s.2 = true → mu s.1 < mu c) ∧ (s.2 = false → s.1 = c ∧ ∀ e ∈ es.take j, c.getD (rnE e) default = m))
    (fun y => y.2.length = c.length ∧ (∀ r, r < v.X5.Zd.length → (y.2.getD r default = m ∧ ∃ e ∈ es, rnE e = r) ∨ y.2.getD r default = c.getD r default) ∧ mu y.2 ≤ mu c ∧ (y.1 = true → mu y.2 < mu c) ∧ (y.1 = false → y.2 = c ∧ ∀ e ∈ es, c.getD (rnE e) default = m))
    (fun j s hj hJ => ?_) (fun s hJ => ?_) es.length 0 (c, false) (by omega) ⟨rfl, fun _ _ => .inr rfl, Nat.le_refl _, (fun e => by cases e), fun _ => ⟨rfl, fun e he => by simp at he⟩⟩
  · obtain ⟨⟨ch, d⟩, h1, h2, h3, h4, h5, h6⟩ := hs
    simp only at h2 h3 h4 h5 h6
    refine ⟨d, ch, ?_, ⟨by rw [h2]; exact hcl, fun r hr => ?_⟩, h4, h5, fun e => ⟨(h6 e).1, fun e1 g1 e2 g2 => by rw [(h6 e).2 e1 g1, (h6 e).2 e2 g2]⟩⟩
    · unfold M.Ku
      rw [hm1]
      simp only [Option.bind_some]
      rw [show loopM (M.W1 es m) (c, false, 0) = some (ch, d) from h1]
      simp only [Option.bind_some]
      exact QJ (ZD (dt h2) Yc) rfl
    · rcases h3 r hr with ⟨g1, e, g2, g3⟩ | g1
      · have hle := hm2 e g2
        obtain ⟨x, w1, w2, _⟩ := hc.val r hr
        rw [g3, w1] at hle
        rcases hm3 with g4 | ⟨e', g4, g5⟩
        · omega
        · obtain ⟨y, u1, u2, u3⟩ := hc.val _ (hin e' g4).1
          refine ⟨y, by rw [g1, g5, u1], by omega, ?_⟩
          rw [← g3]
          exact (hcon e g2 e' g4).trans u3
      · rw [g1]; exact hc.val r hr
  · left
    obtain ⟨h2, h3, h4, h5, h6⟩ := hJ
    obtain ⟨d, ch⟩ := s
    simp only at h2 h3 h4 h5 h6
    obtain ⟨k1, k2⟩ := hin _ (hget hj)
    have q1 : decide ((0 : Int) ≤ (j : Int)) = true := dt (by omega)
    have q2 : decide ((j : Int) < (es.length : Int)) = true := dt (by omega)
    have q3 : decide (((rnE (es.getD j default) : Nat) : Int) ≥ 0) = true := dt (by omega)
    have q4 : decide (((rnE (es.getD j default) : Nat) : Int) < (d.length : Int)) = true := dt (by omega)
    have q5 : decide ((0 : Int) ≤ ((rnE (es.getD j default) : Nat) : Int)) = true := dt (by omega)
    have hg : ∀ g, guardB g true = true := fun g => by cases g <;> rfl
    have hdl : rnE (es.getD j default) < d.length := by omega
    cases hb2 : d.getD (rnE (es.getD j default)) default != m with
    | true =>
      have hne : d.getD (rnE (es.getD j default)) default ≠ m := by simpa using hb2
      have hdc : d.getD (rnE (es.getD j default)) default = c.getD (rnE (es.getD j default)) default := by
        rcases h3 _ k1 with g | g
        · exact absurd g.1 hne
        · exact g
      have hlt : m < d.getD (rnE (es.getD j default)) default := by
        have := hm2 _ (hget hj)
        omega
      have hmu := Zkg hdl m
      refine ⟨(d.set (rnE (es.getD j default)) m, true), ?_, by simpa using h2, fun r hr => ?_, ?_, fun _ => ?_, fun e => by cases e⟩
      · unfold M.W1 M.Uy
        simp only [Int.toNat_natCast, k2, q1, q2, q3, q4, q5, hg, hb2, Nat.zero_add, gd, List.all_cons, List.all_nil, id, Bool.and_self, Bool.and_true, Bool.true_and, cond_true]
        rw [up64 (n := 2000) (by omega) (by omega)]
      · by_cases e : rnE (es.getD j default) = r
        · subst e
          exact .inl ⟨Gp hdl _, _, hget hj, rfl⟩
        · rw [U8 e]; exact h3 r hr
      · simp only; omega
      · simp only; omega
    | false =>
      have heq : d.getD (rnE (es.getD j default)) default = m := by simpa using hb2
      refine ⟨(d, ch), ?_, h2, h3, h4, h5, fun e => ⟨(h6 e).1, fun e1 he => ?_⟩⟩
      · unfold M.W1 M.Uy
        simp only [Int.toNat_natCast, k2, q1, q2, q3, q4, q5, hg, hb2, Nat.zero_add, gd, List.all_cons, List.all_nil, id, Bool.and_self, Bool.and_true, Bool.and_false, cond_true, cond_false]
        rw [up64 (n := 2000) (by omega) (by omega)]
      · rw [htk hj] at he
        rcases List.mem_append.1 he with g | g
        · exact (h6 e).2 e1 g
        · rw [List.mem_singleton.1 g, ← (h6 e).1]
          exact heq
  · obtain ⟨d, ch⟩ := s
    unfold M.W1
    simp only [Int.lt_irrefl, decide_false, cond_false]
    rw [List.take_length] at hJ
    exact ⟨_, rfl, hJ⟩
theorem Zkh (D : List Zh) (m : Nat) : (rlks D m).Pairwise (· < ·) := by
  unfold rlks
  rw [List.pairwise_map]
  exact (List.Pairwise.filter _ List.pairwise_lt_range).imp fun h => Int.ofNat_lt.2 h
theorem Zg2 {D : List Zh} {m : Nat} {x : Int} : x ∈ rlks D m ↔ ∃ k, k < m ∧ 2 ≤ (D.getD k default).ZU.length ∧ x = (k : Int) := by
  unfold rlks
  simp only [List.mem_map, List.mem_filter, List.mem_range, decide_eq_true_eq]
  exact ⟨fun ⟨k, ⟨h1, h2⟩, h3⟩ => ⟨k, h1, h2, h3.symm⟩, fun ⟨k, h1, h2, h3⟩ => ⟨k, ⟨h1, h2⟩, h3.symm⟩⟩
theorem VF.link {v : Xq} (h : VF v) {l : Nat} (hl : l < v.ZV.XB.length) : ∃ k, k < v.ZV.Zv.length ∧ v.ZV.XB.getD l default = (k : Int) := by
  have hm : v.ZV.XB.getD l default ∈ rlks v.ZV.Zv v.ZV.Zv.length := by
    rw [← h.lks, List.getD_eq_getElem?_getD, List.getElem?_eq_getElem hl]; exact List.getElem_mem hl
  obtain ⟨k, h1, _, h3⟩ := Zg2.1 hm
  exact ⟨k, h1, h3⟩
theorem VF.linkI {v : Xq} (h : VF v) {l : Nat} (hl : l < v.ZV.XB.length) {k : Int} (hk : v.ZV.XB.getD l default = k) : lnkI v k = (l : Int) := by
  unfold lnkI
  rcases Zba (fun j => k == v.ZV.XB.getD j default) v.ZV.XB.length with ⟨j, h1, h2, h3, h4⟩ | ⟨_, h2⟩
  · rw [h4]
    have hj : k = v.ZV.XB.getD j default := by simpa using h2
    have hp := Zkh v.ZV.Zv v.ZV.Zv.length
    rw [← h.lks] at hp
    rcases Nat.lt_trichotomy j l with g | g | g
    · have := List.pairwise_iff_getElem.1 hp j l h1 hl g
      rw [List.getD_eq_getElem?_getD, List.getElem?_eq_getElem h1] at hj
      rw [List.getD_eq_getElem?_getD, List.getElem?_eq_getElem hl] at hk
      simp only [Option.getD_some] at hj hk
      omega
    · rw [g]
    · have := h3 l g
      rw [hk] at this
      simp at this
  · have := h2 l hl
    rw [hk] at this
    simp at this
def live (v : Xq) (l : Nat) : Prop := anyN (fun j => (l : Int) == v.Qy.getD j default) v.Qy.length = false
theorem VF.conn {v : Xq} (h : VF v) {l k : Nat} (hl : l < v.ZV.XB.length) (hk : v.ZV.XB.getD l default = (k : Int)) (hkd : k < v.ZV.Zv.length) (hlv : live v l) {e e' : Qo} (he : e ∈ (v.ZV.Zv.getD k default).ZU) (he' : e' ∈ (v.ZV.Zv.getD k default).ZU) : RchV v (rnE e) (rnE e') := by
  obtain ⟨r, i, a1, a2, _, _, a5, a6⟩ := h.inN (V4 hkd) (List.mem_map.2 ⟨e, he, rfl⟩)
  obtain ⟨r', i', b1, b2, _, _, b5, b6⟩ := h.inN (V4 hkd) (List.mem_map.2 ⟨e', he', rfl⟩)
  have c1 : rnE e = r := by unfold rnE; rw [a5]; rfl
  have c2 : rnE e' = r' := by unfold rnE; rw [b5]; rfl
  rw [c1, c2]
  by_cases hr : r = r'
  · rw [hr]; exact .refl _
  · refine .step ⟨a1, i, e', a2, (Rb h).2 ⟨?_, k, hkd, ?_, ?_, List.mem_map.2 ⟨e', he', rfl⟩, by rw [b5]; simp; omega⟩, b5⟩ (.refl _)
    · have hd : ((r : Int), (i : Int)) ∈ dends (v.ZV.Zv.getD k default) := List.mem_map.2 ⟨e, he, by unfold dend; rw [a5, a6]⟩
      unfold upV
      rw [h.domI_eq hkd hd, h.linkI hl hk, decide_eq_false (by omega), decide_eq_false (by omega)]
      unfold live at hlv
      rw [hlv]
      rfl
    · exact h.domI_eq hkd (List.mem_map.2 ⟨e, he, by unfold dend; rw [a5, a6]⟩)
    · exact List.mem_map.2 ⟨e, he, by unfold dend; rw [a5, a6]⟩
theorem Zk8 {l : List Qo} {a b : DEnd} (ha : a ∈ l.map dend) (hb : b ∈ l.map dend) (hne : a ≠ b) : 2 ≤ l.length := by
  match l, ha, hb with
  | [], ha, _ => cases ha
  | [x], ha, hb =>
    simp only [List.map_cons, List.map_nil, List.mem_singleton] at ha hb
    exact absurd (ha.trans hb.symm) hne
  | _ :: _ :: _, _, _ => simp
theorem VF.agree {v : Xq} (h : VF v) {c : List Int} (hc : ∀ l, l < v.ZV.XB.length → live v l → ∀ e ∈ (v.ZV.Zv.getD (v.ZV.XB.getD l default).toNat default).ZU, ∀ e' ∈ (v.ZV.Zv.getD (v.ZV.XB.getD l default).toNat default).ZU, c.getD (rnE e) default = c.getD (rnE e') default) {a b : Nat} (hab : Adj v a b) : c.getD a default = c.getD b default := by
  obtain ⟨ha, i, e, h1, h2, h3⟩ := hab
  obtain ⟨hu, k, k1, k2, k3, k4, k5⟩ := (Rb h).1 h2
  have hne : ((a : Int), (i : Int)) ≠ dend e := fun x => k5 (by have := congrArg Prod.fst x; exact this.symm)
  have hlen := Zk8 k3 k4 hne
  have hmem : (k : Int) ∈ v.ZV.XB := by rw [h.lks]; exact Zg2.2 ⟨k, k1, hlen, rfl⟩
  obtain ⟨l, hl, hlk⟩ := List.getElem_of_mem hmem
  have hg : v.ZV.XB.getD l default = (k : Int) := by rw [List.getD_eq_getElem?_getD, List.getElem?_eq_getElem hl]; exact hlk
  have hlv : live v l := by
    unfold upV at hu
    rw [k2, h.linkI hl hg, decide_eq_false (by omega), decide_eq_false (by omega)] at hu
    simp only [cond_false, Bool.false_or, Bool.not_eq_true'] at hu
    exact hu
  have h4 := hc l hl hlv
  rw [hg, Int.toNat_natCast] at h4
  obtain ⟨x, hx, hxe⟩ := List.mem_map.1 k3
  obtain ⟨y, hy, hye⟩ := List.mem_map.1 k4
  have := h4 x hx y hy
  have e1 : rnE x = a := by
    have := congrArg Prod.fst hxe
    unfold dend at this
    simp only at this
    unfold rnE; rw [this]; rfl
  have e2 : rnE y = b := by
    rw [ZgY hye]
    unfold rnE; rw [h3]; rfl
  rw [e1, e2] at this
  exact this
theorem ZlJ {v : Xq} (h : VF v) {c : List Int} (hc : Good v c) (ha : ∀ a b, Adj v a b → c.getD a default = c.getD b default) : IsC v c := by
  refine ⟨hc.len, fun r hr => ?_⟩
  have key : ∀ s t, RchV v s t → c.getD s default = c.getD t default := fun s t k => by
    induction k with
    | refl => rfl
    | step a _ ih => exact (ha _ _ a).trans ih
  have h1 := hc.ge hr
  have h2 := key _ _ (Uu v r).reach
  have hlt : least v r < v.X5.Zd.length := by
    have := (Uu v r).min r (.refl r)
    omega
  obtain ⟨m, g1, g2, _⟩ := hc.val _ hlt
  rw [h2, g1] at h1 ⊢
  omega
theorem Zid (h : VF v) {c : List Int} (hc : Good v c) : ∃ d ch, loopM (M.JO v) (c, false, 0) = some (ch, d) ∧ Good v d ∧ (ch = true → mu d < mu c) ∧ (ch = false → IsC v d) := by
  have hL : v.ZV.XB.length ≤ 108 := by
    rw [h.lks]
    exact Nat.le_trans (ZeS _ _) h.len
  obtain ⟨⟨ch, d⟩, h1, h2, h3, h4, h5⟩ := Wj (f := M.JO v) (σ := List Int × Bool) (fun j s => (s.1, s.2, (j : Int))) v.ZV.XB.length
    (fun j s => Good v s.1 ∧ mu s.1 ≤ mu c ∧ (s.2 = true → mu s.1 < mu c) ∧ (s.2 = false → s.1 = c ∧ ∀ l, l < j → live v l → ∀ e ∈ (v.ZV.Zv.getD (v.ZV.XB.getD l default).toNat default).ZU, ∀ e' ∈ (v.ZV.Zv.getD (v.ZV.XB.getD l default).toNat default).ZU, c.getD (rnE e) default = c.getD (rnE e') default))
    (fun y => Good v y.2 ∧ mu y.2 ≤ mu c ∧ (y.1 = true → mu y.2 < mu c) ∧ (y.1 = false → y.2 = c ∧ ∀ l, l < v.ZV.XB.length → live v l → ∀ e ∈ (v.ZV.Zv.getD (v.ZV.XB.getD l default).toNat default).ZU, ∀ e' ∈ (v.ZV.Zv.getD (v.ZV.XB.getD l default).toNat default).ZU, c.getD (rnE e) default = c.getD (rnE e') default))
    (fun j s hj hJ => by
      left
      obtain ⟨d, ch⟩ := s
      obtain ⟨g1, g2, g3, g4⟩ := hJ
      simp only at g1 g2 g3 g4
      obtain ⟨k, k1, k2⟩ := h.link hj
      have q1 : decide ((0 : Int) ≤ (j : Int)) = true := dt (by omega)
      have q2 : decide ((j : Int) < (v.ZV.XB.length : Int)) = true := dt (by omega)
      have q3 : decide ((k : Int) < 0) = false := decide_eq_false (by omega)
      have q4 : decide ((k : Int) ≥ (v.ZV.Zv.length : Int)) = false := decide_eq_false (by omega)
      have q5 : decide ((0 : Int) ≤ (k : Int)) = true := dt (by omega)
      have q6 : decide ((k : Int) < (v.ZV.Zv.length : Int)) = true := dt (by omega)
      have hct : M.Xx v.Qy (j : Int) = some (anyN (fun i => (j : Int) == v.Qy.getD i default) v.Qy.length) := by
        have hM := Zu
        have hd := h.dn
        rw [G3 v.Qy (j : Int) (by omega)]
        exact congrArg some (Zlp (fun i => (j : Int) == v.Qy.getD i default) v.Qy.length)
      cases hlv : anyN (fun i => (j : Int) == v.Qy.getD i default) v.Qy.length with
      | true =>
        refine ⟨(d, ch), ?_, g1, g2, g3, fun e => ⟨(g4 e).1, fun l hl hv => ?_⟩⟩
        · unfold M.JO M.JN
          simp only [Int.toNat_natCast, k2, q1, q2, q3, q4, gc, hct, hlv, gd, List.all_cons, List.all_nil, id, Bool.and_self, Bool.or_self, Bool.not_false, Bool.or_true, cond_true, Option.bind_some]
          rw [up64 (n := 2000) (by omega) (by omega)]
        · rcases Nat.lt_or_ge l j with g | g
          · exact (g4 e).2 l g hv
          · obtain rfl : l = j := by omega
            unfold live at hv
            rw [hlv] at hv; cases hv
      | false =>
        have hlive : live v j := hlv
        obtain ⟨d', ch', w1, w2, w3, w4, w5⟩ := Zk7 h g1 (es := (v.ZV.Zv.getD k default).ZU) (h.ends (V4 k1)) (fun e he => by
          obtain ⟨r, i, a1, _, _, _, a5, _⟩ := h.inN (V4 k1) (List.mem_map.2 ⟨e, he, rfl⟩)
          have : rnE e = r := by unfold rnE; rw [a5]; rfl
          rw [this]
          exact ⟨a1, a5⟩) (fun e he e' he' => h.conn hj k2 k1 hlive he he')
        have hlen : decide (d'.length = d.length) = true := dt (by rw [w2.len, g1.len])
        refine ⟨(d', bif ch' then true else ch), ?_, w2, by simp only; omega, fun e => ?_, fun e => ?_⟩
        · unfold M.JO M.JN
          simp only [Int.toNat_natCast, k2, q1, q2, q3, q4, q5, q6, gc, hct, hlv, gd, List.all_cons, List.all_nil, id, Bool.and_self, Bool.or_self, Bool.not_false, cond_true, cond_false, Option.bind_some, w1, hlen]
          rw [up64 (n := 2000) (by omega) (by omega)]
          cases ch' <;> rfl
        · cases ch' with
          | true => have := w4 rfl; simp only; omega
          | false => have := g3 e; simp only; omega
        · cases ch' with
          | true => cases e
          | false =>
            obtain ⟨u1, u2⟩ := w5 rfl
            obtain ⟨u3, u4⟩ := g4 e
            refine ⟨u1.trans u3, fun l hl hv => ?_⟩
            rcases Nat.lt_or_ge l j with g | g
            · exact u4 l g hv
            · obtain rfl : l = j := by omega
              rw [k2, Int.toNat_natCast, ← u3]
              exact u2)
    (fun s hJ => by
      obtain ⟨d, ch⟩ := s
      unfold M.JO
      simp only [Int.lt_irrefl, decide_false, cond_false]
      exact ⟨_, rfl, hJ⟩) v.ZV.XB.length 0 (c, false) (by omega) ⟨hc, Nat.le_refl _, (fun e => by cases e), fun _ => ⟨rfl, fun l hl => by omega⟩⟩
  exact ⟨d, ch, h1, h2, h4, fun e => ZlJ h h2 fun a b hab => by
    obtain ⟨g1, g2⟩ := h5 e
    simp only at g1
    rw [g1]
    exact h.agree g2 hab⟩
theorem Zki (h : VF v) : ∀ (N : Nat) (c : List Int), mu c ≤ N → Good v c → ∃ d, loopM (M.Vn v) (c, true) = some d ∧ IsC v d := fun N => by
  induction N with
  | zero =>
    intro c hN hc
    obtain ⟨d, ch, h1, h2, h3, h4⟩ := Zid h hc
    cases ch with
    | true => have := h3 rfl; omega
    | false =>
      refine ⟨d, ?_, h4 rfl⟩
      rw [RC]
      unfold M.Vn
      simp only [cond_true, h1, Option.bind_some]
      rw [RC]
      simp only [cond_false, Option.bind_some]
  | succ N ih =>
    intro c hN hc
    obtain ⟨d, ch, h1, h2, h3, h4⟩ := Zid h hc
    cases ch with
    | true =>
      have := h3 rfl
      obtain ⟨d', k1, k2⟩ := ih d (by omega) h2
      refine ⟨d', ?_, k2⟩
      rw [RC]
      unfold M.Vn at k1 ⊢
      simp only [cond_true, h1, Option.bind_some]
      exact k1
    | false =>
      refine ⟨d, ?_, h4 rfl⟩
      rw [RC]
      unfold M.Vn
      simp only [cond_true, h1, Option.bind_some]
      rw [RC]
      simp only [cond_false, Option.bind_some]
theorem Zld (h : VF v) : ∃ c, M.Wl v = some c ∧ IsC v c := by
  have hR := h.nr
  unfold M.Wl
  simp only [Int.toNat_natCast]
  rw [QJ (k := rfl) (ZD (dt (by omega)) (ZD (dt (by omega)) (ZD (dt (by omega)) (ZD (dt (by omega)) Yc))))]
  obtain ⟨c, h1, h2⟩ := Zic h (f := M.We v) (fun c i hi hc => by
    have q1 : decide ((0 : Int) ≤ (i : Int)) = true := dt (by omega)
    have q2 : decide ((i : Int) < (v.X5.Zd.length : Int)) = true := dt (by omega)
    unfold M.We
    simp only [q1, q2, hc, gd, List.all_cons, List.all_nil, id, Bool.and_self, Bool.and_true, cond_true, Int.toNat_natCast, Nat.zero_add, List.length_replicate]
    rw [up64 (n := 2000) (by omega) (by omega)]) (fun c => by
    unfold M.We
    simp only [Int.toNat_natCast, List.length_replicate, Int.lt_irrefl, decide_false, cond_false])
  obtain ⟨d, k1, k2⟩ := Zki h (mu c) c (Nat.le_refl _) h2
  rw [h1]
  simp only [Option.bind_some, k1]
  exact ⟨d, rfl, k2⟩
end
theorem Zfu (l : List Int) (hl : l.length ≤ maxLen) : M.WM l l = some true := by
  rw [ZgX l l hl hl]
  unfold S.WM
  simp only [bne_self_eq_false, cond_false, letS]
  rw [Zft]
  · rfl
  · intro i _
    unfold S.Vu
    simp
theorem Zkj {v w : Xq} (hv : VF v) (hw : VF w) (hn : w.X5 = v.X5) (ht : w.ZV = v.ZV) (hd : v.Qy = []) {a b : Nat} (h : Adj w a b) : Adj v a b := by
  obtain ⟨h0, i, e, h1, h2, h3⟩ := h
  rw [hn] at h0 h1
  refine ⟨h0, i, e, h1, ?_, h3⟩
  obtain ⟨hu, k, k1, k2, k3, k4, k5⟩ := (Rb hw).1 h2
  have hdom : ∀ x, domI w x = domI v x := fun x => by unfold domI; rw [ht]
  rw [ht] at k1 k3 k4
  rw [hdom] at k2
  refine (Rb hv).2 ⟨?_, k, k1, k2, k3, k4, k5⟩
  unfold upV
  rw [k2, hd, decide_eq_false (by omega)]
  simp [anyN]
theorem Zak (a0 : ZB) (a1 : Int) (w0 : Zbr a0) (_w1 : (Lit.int .i64 a1).wf = true) : M.Wt a0 a1 = some true := by
  have ha := Ze8 w0
  have hM := Zu
  obtain ⟨v, ok, h1, h2⟩ := Zia ha [] (by simp)
  unfold M.Wt
  rw [h1]
  simp only [Option.bind_some]
  cases ok with
  | false => rfl
  | true =>
    obtain ⟨hv, hvn, hvd, hvt⟩ := h2 rfl
    obtain ⟨c, c1, c2⟩ := Zld hv
    obtain ⟨c', c3, c4⟩ := Zlc hv
    obtain rfl := Zke c2 c4
    have hR := hv.nr
    have hcl : c.length ≤ maxLen := by rw [c2.1]; omega
    simp only [Bool.not_true, cond_false, c1, c3, Option.bind_some, Zfu c hcl]
    obtain ⟨w, ok, k1, k2⟩ := Zia ha [a1] (by simp; omega)
    rw [k1]
    simp only [Option.bind_some]
    cases ok with
    | false => simp only [Bool.not_false, cond_true, Zfp, Option.bind_some]
    | true =>
      obtain ⟨hw, hwn, _, _⟩ := k2 rfl
      obtain ⟨w', ok', e1, e2⟩ := hvt [a1] (by simp; omega)
      rw [k1] at e1
      simp only [Option.some.injEq, Prod.mk.injEq] at e1
      obtain ⟨rfl, rfl⟩ := e1
      have htop := e2 rfl
      have hnet : w.X5 = v.X5 := hwn.trans hvn.symm
      obtain ⟨d, d1, d2⟩ := Zld hw
      obtain ⟨d', d3, d4⟩ := Zlc hw
      obtain rfl := Zke d2 d4
      have hlen : d.length = c.length := by rw [d2.1, c2.1, hnet]
      have hdl : d.length ≤ maxLen := by omega
      have hne : ((c.length : Int) != (d.length : Int)) = false := by rw [hlen]; simp
      simp only [Bool.not_true, cond_false, d1, d3, Option.bind_some, Zfu d hdl, hne, Bool.or_self]
      have hmono : ∀ r s, RchV w r s → RchV v r s := fun r s k => by
        induction k with
        | refl => exact .refl _
        | step a _ ih => exact .step (Zkj hv hw hnet htop hvd a) ih
      have hloop := Wj (f := M.QX c d) (σ := Unit) (fun j _ => (j : Int)) d.length (fun _ _ => True) (fun y => y = .inl ())
        (fun j _ hj _ => by
          left
          refine ⟨(), ?_, trivial⟩
          have hjn : j < w.X5.Zd.length := by rw [← d2.1]; exact hj
          have hdj := d2.2 j hjn
          have hls := Uu w j
          have hmin := hls.min j (.refl j)
          have hcj := c2.2 j (by rw [← hnet]; exact hjn)
          have hck := c2.2 (least w j) (by rw [← hnet]; omega)
          have heq := ZeT hv (hmono _ _ hls.reach)
          have hcl2 : c.length = w.X5.Zd.length := by rw [c2.1, hnet]
          have q1 : decide ((0 : Int) ≤ (j : Int)) = true := dt (by omega)
          have q2 : decide ((j : Int) < (d.length : Int)) = true := dt (by omega)
          have q3 : decide (((least w j : Nat) : Int) < 0) = false := decide_eq_false (by omega)
          have q4 : decide (((least w j : Nat) : Int) ≥ (c.length : Int)) = false := decide_eq_false (by omega)
          have q5 : decide ((0 : Int) ≤ ((least w j : Nat) : Int)) = true := dt (by omega)
          have q6 : decide (((least w j : Nat) : Int) < (c.length : Int)) = true := dt (by omega)
          have q7 : decide ((j : Int) < (c.length : Int)) = true := dt (by omega)
          have hg : ∀ g, guardB g true = true := fun g => by cases g <;> rfl
          unfold M.QX
          simp only [Int.toNat_natCast, hdj, hcj, hck, heq, q1, q2, q3, q4, q5, q6, q7, hg, gd, List.all_cons, List.all_nil, id, Bool.and_self, Bool.or_self, cond_true, cond_false, bne_self_eq_false]
          have := hw.nr
          rw [up64 (n := 2000) (by omega) (by omega)])
        (fun _ _ => by
          unfold M.QX
          simp only [Int.lt_irrefl, decide_false, cond_false]
          exact ⟨_, rfl, rfl⟩) d.length 0 () (by omega) trivial
      obtain ⟨y, hy, rfl⟩ := hloop
      rw [show loopM (M.QX c d) 0 = some (.inl ()) from hy]
      simp only [Option.bind_some, Sum.elim_inl, Zfp]
end Nv
