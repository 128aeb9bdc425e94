/- The least costs of spf.Distances. No condition. -/
import Derived.Test.YtlhpjcjjnbfmbaaNvY1
import Derived.Test.YtlhpjcjjnbfmbaaNvLibC
import Derived.Test.YtlhpjcjjnbfmbaaNvLibB
set_option maxRecDepth 100000
namespace Nv
open Go
theorem nodes_eq {a : Int} (h : a ≤ 64) : M.spf_nodes a = some ((a.toNat : Nat) : Int) := by
  unfold M.spf_nodes
  congr 1
  split <;> (try split) <;> omega
theorem usable_eq (n : Nat) (e : TEdge) : ∃ b, M.spf_usable n e = some b ∧ (b = true ↔ Us n e) := by
  refine ⟨_, rfl, ?_⟩
  simp only [Bool.and_eq_true, decide_eq_true_eq]
  exact ⟨fun ⟨⟨⟨⟨⟨h1, h2⟩, h3⟩, h4⟩, h5⟩, h6⟩ => ⟨h1, h2, h3, h4, h5, h6⟩, fun h => ⟨⟨⟨⟨⟨h.f0, h.f1⟩, h.t0⟩, h.t1⟩, h.c0⟩, h.c1⟩⟩
theorem up1 {i : Nat} (h : i ≤ 100000) : wr .i64 ((i : Int) + 1) = ((i + 1 : Nat) : Int) := by rw [wrN (by omega) (by omega)]; omega
theorem gset {l : List Int} {i j : Nat} {x : Int} (hi : i < l.length) : (l.set i x).getD j default = if j = i then x else l.getD j default := by
  by_cases h : j = i
  · subst h; simp [hi]
  · rw [if_neg h]; simp [List.getElem?_set_ne (Ne.symm h)]
theorem bset {l : List Bool} {i j : Nat} {x : Bool} (hi : i < l.length) : (l.set i x).getD j default = if j = i then x else l.getD j default := by
  by_cases h : j = i
  · subst h; simp [hi]
  · rw [if_neg h]; simp [List.getElem?_set_ne (Ne.symm h)]
theorem d_l1 {n : Nat} (hn : n ≤ 64) : ∀ (k i : Nat) (l : List Int), i + k = n → l.length = n → (∀ j, j < i → l.getD j default = -1) → ∃ r, Iter (M.spf_Distances_l1 (n : Int)) (l, (i : Int)) r ∧ r.length = n ∧ ∀ j, j < n → r.getD j default = -1 := by
  intro k
  induction k with
  | zero =>
    intro i l h hl hj
    refine ⟨l, .out ?_, hl, fun j h1 => hj j (by omega)⟩
    unfold M.spf_Distances_l1
    rw [show decide ((i : Int) < ((List.replicate ((n : Int)).toNat (0 : Int)).length : Int)) = false from decide_eq_false (by simp; omega)]
    rfl
  | succ k ih =>
    intro i l h hl hj
    obtain ⟨r, h1, h2⟩ := ih (i + 1) (l.set i (-1)) (by omega) (by simpa using hl) (fun j hj' => by
      rw [gset (by omega)]
      split
      · rfl
      · exact hj j (by omega))
    refine ⟨r, .next ?_ h1, h2⟩
    unfold M.spf_Distances_l1
    rw [show decide ((i : Int) < ((List.replicate ((n : Int)).toNat (0 : Int)).length : Int)) = true from decide_eq_true (by simp; omega), cond_true]
    simp only [Int.toNat_natCast, Nat.zero_add]
    rw [gdT (by simp; omega), up1 (by omega)]
def Cand (d : List Int) (dn : List Bool) (j : Nat) : Prop := dn.getD j default = false ∧ 0 ≤ d.getD j default
def Least (d : List Int) (dn : List Bool) (i : Nat) (y : Int) : Prop :=
  (y = -1 ∧ ∀ j, j < i → ¬ Cand d dn j) ∨ ∃ x : Nat, y = x ∧ x < i ∧ Cand d dn x ∧ ∀ j, j < i → Cand d dn j → d.getD x default ≤ d.getD j default
theorem d_l3 {n : Nat} (hn : n ≤ 64) {d : List Int} {dn : List Bool} (hd : d.length = n) (hb : dn.length = n) : ∀ (k i : Nat) (y : Int), i + k = n → Least d dn i y → ∃ r, Iter (M.spf_Distances_l3 (d, dn)) (y, (i : Int)) r ∧ Least d dn n r := by
  intro k
  induction k with
  | zero =>
    intro i y h hy
    refine ⟨y, .out ?_, by rwa [show n = i by omega]⟩
    unfold M.spf_Distances_l3
    rw [show decide ((i : Int) < (d.length : Int)) = false from decide_eq_false (by omega)]
    rfl
  | succ k ih =>
    intro i y h hy
    have hi : i < n := by omega
    have hyb : y = -1 ∨ ∃ x : Nat, y = x ∧ x < n := hy.imp And.left fun ⟨x, h1, h2, _⟩ => ⟨x, h1, by omega⟩
    have hyr : y < 0 ∨ (0 ≤ y ∧ y < (d.length : Int)) := by rcases hyb with h | ⟨x, h, h'⟩ <;> omega
    have st : M.spf_Distances_l3 (d, dn) (y, (i : Int)) = bif ((!(dn.getD i default)) && (decide ((d.getD i default) ≥ 0))) && ((decide (y < 0)) || (decide ((d.getD i default) < (d.getD y.toNat default)))) then some (.inl ((i : Int), ((i + 1 : Nat) : Int))) else some (.inl (y, ((i + 1 : Nat) : Int))) := by
      unfold M.spf_Distances_l3 M.spf_Distances_k1
      simp only [Int.toNat_natCast, Nat.zero_add]
      rw [show decide ((i : Int) < (d.length : Int)) = true from decide_eq_true (by omega), cond_true, gdT (by simp), gdT (by
        have e1 : decide ((i : Int) < (dn.length : Int)) = true := decide_eq_true (by omega)
        have e2 : ∀ g : Bool, guardB (g && !(decide (y < 0))) (decide (0 ≤ y)) = true := fun g => by
          rcases hyr with h | h
          · rw [decide_eq_true h]; cases g <;> rfl
          · rw [decide_eq_true h.1]; exact guardB_t
        have e3 : ∀ g : Bool, guardB (g && !(decide (y < 0))) (decide (y < (d.length : Int))) = true := fun g => by
          rcases hyr with h | h
          · rw [decide_eq_true h]; cases g <;> rfl
          · rw [decide_eq_true h.2]; exact guardB_t
        simp only [List.all_cons, List.all_nil, e1, e2, e3, id]
        simp), up1 (by omega)]
    cases hc : ((!(dn.getD i default)) && (decide ((d.getD i default) ≥ 0))) && ((decide (y < 0)) || (decide ((d.getD i default) < (d.getD y.toNat default)))) with
    | true =>
      rw [hc] at st
      simp only [Bool.and_eq_true, Bool.not_eq_true', decide_eq_true_eq, Bool.or_eq_true] at hc
      have hci : Cand d dn i := ⟨hc.1.1, hc.1.2⟩
      obtain ⟨r, h1, h2⟩ := ih (i + 1) (i : Int) (by omega) (.inr ⟨i, rfl, by omega, hci, fun j hj hcj => by
        rcases Nat.lt_or_ge j i with h3 | h3
        · rcases hy with ⟨_, h4⟩ | ⟨x, h4, _, _, h5⟩
          · exact absurd hcj (h4 j h3)
          · have h6 := h5 j h3 hcj
            have h7 := hc.2
            rw [h4, Int.toNat_natCast] at h7
            omega
        · have : j = i := by omega
          subst this; omega⟩)
      exact ⟨r, .next st h1, h2⟩
    | false =>
      rw [hc] at st
      obtain ⟨r, h1, h2⟩ := ih (i + 1) y (by omega) (by
        have hnc : Cand d dn i → 0 ≤ y ∧ d.getD y.toNat default ≤ d.getD i default := fun ⟨h3, h4⟩ => by
          rw [h3, decide_eq_true (show d.getD i default ≥ 0 from h4)] at hc
          simp only [Bool.not_false, Bool.and_self, Bool.true_and, Bool.or_eq_false_iff, decide_eq_false_iff_not] at hc
          omega
        rcases hy with ⟨h3, h4⟩ | ⟨x, h3, h4, h5, h6⟩
        · refine .inl ⟨h3, fun j hj hcj => ?_⟩
          rcases Nat.lt_or_ge j i with h7 | h7
          · exact h4 j h7 hcj
          · have : j = i := by omega
            subst this
            have := hnc hcj; omega
        · refine .inr ⟨x, h3, by omega, h5, fun j hj hcj => ?_⟩
          rcases Nat.lt_or_ge j i with h7 | h7
          · exact h6 j h7 hcj
          · have : j = i := by omega
            subst this
            have := (hnc hcj).2
            rwa [h3, Int.toNat_natCast] at this)
      exact ⟨r, .next st h1, h2⟩
structure Rlx (n : Nat) (es : List TEdge) (x : Nat) (d0 : List Int) (k : Nat) (d : List Int) : Prop where
  len : d.length = n
  how : ∀ i, i < n → d.getD i default = d0.getD i default ∨ ∃ e ∈ es, Us n e ∧ e.fFrom = x ∧ e.fTo = i ∧ d.getD i default = d0.getD x default + e.fCost
  le : ∀ i, i < n → 0 ≤ d0.getD i default → 0 ≤ d.getD i default ∧ d.getD i default ≤ d0.getD i default
  edge : ∀ e ∈ es.take k, Us n e → e.fFrom = x → 0 ≤ d.getD e.fTo.toNat default ∧ d.getD e.fTo.toNat default ≤ d0.getD x default + e.fCost
theorem Rlx.self {n : Nat} {es : List TEdge} {x : Nat} {d0 d : List Int} {k : Nat} (h : Rlx n es x d0 k d) (hx : x < n) (h0 : 0 ≤ d0.getD x default) : d.getD x default = d0.getD x default := by
  rcases h.how x hx with h1 | ⟨e, _, hu, _, _, h1⟩
  · exact h1
  · have := (h.le x hx h0).2
    have := hu.c0
    omega
theorem etake {es : List TEdge} {k : Nat} (hk : k < es.length) : es.take (k + 1) = es.take k ++ [es.getD k default] := by
  rw [List.take_add_one]
  simp [hk]
theorem d_l4 {n : Nat} {es : List TEdge} (he : es.length ≤ 1000) {x : Nat} (hx : x < n) {d0 : List Int} (h0 : 0 ≤ d0.getD x default) (hB : d0.getD x default ≤ 100000000000) : ∀ (m k : Nat) (d : List Int), k + m = es.length → Rlx n es x d0 k d → ∃ r, Iter (M.spf_Distances_l4 es (n : Int) (x : Int)) (d, (k : Int)) r ∧ Rlx n es x d0 es.length r := by
  intro m
  induction m with
  | zero =>
    intro k d h hr
    refine ⟨d, .out ?_, by rwa [show es.length = k by omega]⟩
    unfold M.spf_Distances_l4
    rw [show decide ((k : Int) < (es.length : Int)) = false from decide_eq_false (by omega)]
    rfl
  | succ m ih =>
    intro k d h hr
    have hk : k < es.length := by omega
    have hmem : es.getD k default ∈ es := by rw [List.getD_eq_getElem?_getD, List.getElem?_eq_getElem hk]; exact List.getElem_mem hk
    generalize hE : es.getD k default = e at hmem
    have hdx : d.getD x default = d0.getD x default := hr.self hx h0
    obtain ⟨b, hb, hbu⟩ := usable_eq n e
    have skip : ∀ d', M.spf_Distances_k2 (d, (k : Int)) d' = some (.inl (d', ((k + 1 : Nat) : Int))) := fun d' => by unfold M.spf_Distances_k2; rw [up1 (by omega)]
    have same : (¬ (Us n e ∧ e.fFrom = x)) → Rlx n es x d0 (k + 1) d := fun hno => ⟨hr.len, hr.how, hr.le, fun e' h1 h2 h3 => by
      rw [etake hk, hE] at h1
      rcases List.mem_append.1 h1 with h4 | h4
      · exact hr.edge e' h4 h2 h3
      · rw [List.mem_singleton.1 h4] at h2 h3
        exact absurd ⟨h2, h3⟩ hno⟩
    have st : M.spf_Distances_l4 es (n : Int) (x : Int) (d, (k : Int)) = bif (!b) || (e.fFrom != (x : Int)) then some (.inl (d, ((k + 1 : Nat) : Int))) else (gd [decide (0 ≤ (x : Int)), decide ((x : Int) < (d.length : Int))] (gd [decide (0 ≤ e.fTo), decide (e.fTo < (d.length : Int)), guardB (!(decide ((d.getD e.fTo.toNat default) < 0))) (decide (0 ≤ e.fTo)), guardB (!(decide ((d.getD e.fTo.toNat default) < 0))) (decide (e.fTo < (d.length : Int)))] (bif (decide ((d.getD e.fTo.toNat default) < 0)) || (decide ((wr .i64 ((d.getD x default) + e.fCost)) < (d.getD e.fTo.toNat default))) then (gd [decide (0 ≤ e.fTo), decide (e.fTo < (d.length : Int))] (some (.inl (d.set e.fTo.toNat (wr .i64 ((d.getD x default) + e.fCost)), ((k + 1 : Nat) : Int))))) else some (.inl (d, ((k + 1 : Nat) : Int)))))) := by
      unfold M.spf_Distances_l4
      simp only [Int.toNat_natCast, Nat.zero_add, hE, skip]
      rw [show decide ((k : Int) < (es.length : Int)) = true from decide_eq_true (by omega), cond_true, gdT (by simp), hb, Option.bind_some]
    by_cases hyes : Us n e ∧ e.fFrom = x
    · obtain ⟨hu, hf⟩ := hyes
      have hbt : b = true := hbu.2 hu
      have hlt := hu.t1
      have hl0 := hu.t0
      have hc0 := hu.c0
      have hc1 := hu.c1
      have hlen := hr.len
      have htn : e.fTo.toNat < d.length := by omega
      rw [hbt, show (e.fFrom != (x : Int)) = false by simp [hf], Bool.not_true, Bool.or_self, cond_false, gdT (by simp; omega), gdT (by
        have e1 : decide (0 ≤ e.fTo) = true := decide_eq_true hl0
        have e2 : decide (e.fTo < (d.length : Int)) = true := decide_eq_true (by omega)
        simp only [List.all_cons, List.all_nil, e1, e2, guardB_t, id, Bool.and_self]), wrN (n := d.getD x default + e.fCost) (by omega) (by omega), gdT (by simp; omega)] at st
      cases hc : (decide ((d.getD e.fTo.toNat default) < 0)) || (decide ((d.getD x default + e.fCost) < (d.getD e.fTo.toNat default))) with
      | true =>
        rw [hc] at st
        simp only [Bool.or_eq_true, decide_eq_true_eq] at hc
        obtain ⟨r, h1, h2⟩ := ih (k + 1) (d.set e.fTo.toNat (d.getD x default + e.fCost)) (by omega) ⟨by simpa using hlen, fun i hi => by
            rw [gset htn]
            split
            · rename_i hie
              exact .inr ⟨e, hmem, hu, hf, by omega, by rw [hdx]⟩
            · exact hr.how i hi, fun i hi h3 => by
            rw [gset htn]
            split
            · rename_i hie
              have h4 := hr.le i hi h3
              subst hie
              omega
            · exact hr.le i hi h3, fun e' h3 h4 h5 => by
            rw [etake hk, hE] at h3
            rw [gset htn]
            split
            · rename_i hie
              rcases List.mem_append.1 h3 with h6 | h6
              · have h7 := hr.edge e' h6 h4 h5
                rw [hie] at h7
                rw [hdx] at *
                omega
              · rw [List.mem_singleton.1 h6, hdx]; omega
            · rename_i hie
              rcases List.mem_append.1 h3 with h6 | h6
              · exact hr.edge e' h6 h4 h5
              · rw [List.mem_singleton.1 h6] at hie; exact absurd rfl hie⟩
        exact ⟨r, .next st h1, h2⟩
      | false =>
        rw [hc] at st
        simp only [Bool.or_eq_false_iff, decide_eq_false_iff_not] at hc
        obtain ⟨r, h1, h2⟩ := ih (k + 1) d (by omega) ⟨hlen, hr.how, hr.le, fun e' h3 h4 h5 => by
          rw [etake hk, hE] at h3
          rcases List.mem_append.1 h3 with h6 | h6
          · exact hr.edge e' h6 h4 h5
          · rw [List.mem_singleton.1 h6]; rw [hdx] at hc; omega⟩
        exact ⟨r, .next st h1, h2⟩
    · have hcond : ((!b) || (e.fFrom != (x : Int))) = true := by
        cases b with
        | false => rfl
        | true =>
          have hu := hbu.1 rfl
          have : e.fFrom ≠ x := fun h => hyes ⟨hu, h⟩
          simpa using this
      rw [hcond, cond_true] at st
      obtain ⟨r, h1, h2⟩ := ih (k + 1) d (by omega) (same hyes)
      exact ⟨r, .next st h1, h2⟩
structure Dj (n : Nat) (es : List TEdge) (x0 : Nat) (m : Nat) (d : List Int) (dn : List Bool) : Prop where
  len : d.length = n
  dlen : dn.length = n
  d0 : 0 ≤ d.getD x0 default ∧ d.getD x0 default ≤ 0
  ach : ∀ i, i < n → 0 ≤ d.getD i default → Walk n es x0 i (d.getD i default)
  neg : ∀ i, i < n → d.getD i default < 0 → d.getD i default = -1
  done : ∀ i, i < n → dn.getD i default = true → 0 ≤ d.getD i default
  edge : ∀ e ∈ es, Us n e → dn.getD e.fFrom.toNat default = true → 0 ≤ d.getD e.fTo.toNat default ∧ d.getD e.fTo.toNat default ≤ d.getD e.fFrom.toNat default + e.fCost
  ord : ∀ i j, i < n → j < n → dn.getD i default = true → dn.getD j default = false → 0 ≤ d.getD j default → d.getD i default ≤ d.getD j default
  bnd : ∀ i, i < n → d.getD i default ≤ (((64 - m : Nat) : Int)) * 16777215
  cnt : dn.count false ≤ m
theorem d_l2 {n : Nat} (hn : n ≤ 64) {es : List TEdge} (he : es.length ≤ 1000) {x0 : Nat} (hx0 : x0 < n) : ∀ (m : Nat) (d : List Int) (dn : List Bool), m ≤ 64 → Dj n es x0 m d dn → ∃ r, Iter (M.spf_Distances_l2 es (n : Int)) (d, dn) r ∧ Dist n es x0 r ∧ ∀ i, i < n → r.getD i default ≤ 1073741760 := by
  intro m
  induction m with
  | zero =>
    intro d dn _ h
    obtain ⟨y, h1, h2⟩ := d_l3 hn h.len h.dlen n 0 (-1) (Nat.zero_add _) (.inl ⟨rfl, fun j hj => by omega⟩)
    have hall : ∀ j, j < n → dn.getD j default = true := fun j hj => by
      have hc := h.cnt
      have : ∀ b ∈ dn, b = true := by
        intro b hb
        cases b with
        | true => rfl
        | false => have := List.count_pos_iff.2 hb; omega
      have hjl : j < dn.length := by rw [h.dlen]; exact hj
      rw [List.getD_eq_getElem?_getD, List.getElem?_eq_getElem hjl]
      exact this _ (List.getElem_mem hjl)
    rcases h2 with ⟨rfl, _⟩ | ⟨x, _, hx, hcx, _⟩
    · refine ⟨d, .out ?_, .of hx0 h.len (by have := h.d0; omega) h.ach h.neg fun e he' hu h0 => h.edge e he' hu (hall _ (by have := hu.f0; have := hu.f1; omega)), fun i hi => by have := h.bnd i hi; omega⟩
      unfold M.spf_Distances_l2
      rw [show ((-1 : Int), (0 : Int)) = ((-1 : Int), ((0 : Nat) : Int)) from rfl, loopM_of h1, Option.bind_some]
      rfl
    · have := hall x hx
      rw [hcx.1] at this; cases this
  | succ m ih =>
    intro d dn hm h
    obtain ⟨y, h1, h2⟩ := d_l3 hn h.len h.dlen n 0 (-1) (Nat.zero_add _) (.inl ⟨rfl, fun j hj => by omega⟩)
    rcases h2 with ⟨rfl, hno⟩ | ⟨x, rfl, hx, hcx, hle⟩
    · refine ⟨d, .out ?_, .of hx0 h.len (by have := h.d0; omega) h.ach h.neg fun e he' hu h0 => h.edge e he' hu ?_, fun i hi => by have := h.bnd i hi; omega⟩
      · unfold M.spf_Distances_l2
        rw [show ((-1 : Int), (0 : Int)) = ((-1 : Int), ((0 : Nat) : Int)) from rfl, loopM_of h1, Option.bind_some]
        rfl
      · have hlt : e.fFrom.toNat < n := by have := hu.f0; have := hu.f1; omega
        cases hq : dn.getD e.fFrom.toNat default with
        | true => rfl
        | false => exact absurd ⟨hq, h0⟩ (hno _ hlt)
    · have hbx := h.bnd x hx
      obtain ⟨r, h3, h4⟩ := d_l4 (n := n) he hx hcx.2 (by omega) es.length 0 d (Nat.zero_add _) ⟨h.len, fun i _ => .inl rfl, fun i _ h => ⟨h, Int.le_refl _⟩, fun e h => by simp at h⟩
      have hrx := h4.self hx hcx.2
      have hxl : x < dn.length := by rw [h.dlen]; exact hx
      -- nodes that are done keep their costs
      have keep : ∀ i, i < n → dn.getD i default = true → r.getD i default = d.getD i default := fun i hi hdi => by
        rcases h4.how i hi with h5 | ⟨e, he', hu, hf, ht, h5⟩
        · exact h5
        · have h6 := h.ord i x hi hx hdi hcx.1 hcx.2
          have h7 := h4.le i hi (h.done i hi hdi)
          have := hu.c0
          omega
      have st : M.spf_Distances_l2 es (n : Int) (d, dn) = some (.inl (r, dn.set x true)) := by
        unfold M.spf_Distances_l2
        rw [show ((-1 : Int), (0 : Int)) = ((-1 : Int), ((0 : Nat) : Int)) from rfl, loopM_of h1, Option.bind_some]
        simp only [Int.toNat_natCast, Nat.zero_add]
        rw [show decide ((x : Int) < 0) = false from decide_eq_false (by omega), cond_false, gdT (by simp; omega), show (0 : Int) = ((0 : Nat) : Int) from rfl, loopM_of h3, Option.bind_some]
      have hmono : ∀ i, i < n → 0 ≤ d.getD i default → 0 ≤ r.getD i default ∧ r.getD i default ≤ d.getD i default := h4.le
      obtain ⟨q, h5, h6⟩ := ih r (dn.set x true) (by omega) (by
        refine ⟨h4.len, by simpa using h.dlen, ?_, ?_, ?_, ?_, ?_, ?_, ?_, ?_⟩
        · have := hmono x0 hx0 h.d0.1
          have := h.d0.2
          omega
        · intro i hi h0
          rcases h4.how i hi with h7 | ⟨e, he', hu, hf, ht, h7⟩
          · rw [h7] at h0 ⊢; exact h.ach i hi h0
          · rw [h7, ← ht]
            exact .snoc (h.ach x hx hcx.2) e he' hu hf
        · intro i hi h0
          rcases h4.how i hi with h7 | ⟨e, he', hu, hf, ht, h7⟩
          · rw [h7] at h0 ⊢; exact h.neg i hi h0
          · have := hu.c0; have := hcx.2; omega
        · intro i hi hdi
          rw [bset hxl] at hdi
          split at hdi
          · rename_i hix; subst hix; rw [hrx]; exact hcx.2
          · exact (hmono i hi (h.done i hi hdi)).1
        · intro e he' hu hdi
          have hfn : e.fFrom.toNat < n := by have := hu.f0; have := hu.f1; omega
          have htn : e.fTo.toNat < n := by have := hu.t0; have := hu.t1; omega
          rw [bset hxl] at hdi
          split at hdi
          · rename_i hix
            have := h4.edge e (by simpa using he') hu (by have := hu.f0; omega)
            rw [hix, hrx]; exact this
          · have h7 := h.edge e he' hu hdi
            have h8 := hmono _ htn h7.1
            rw [keep _ hfn hdi]
            omega
        · intro i j hi hj hdi hdj h0
          have hjx : dn.getD j default = false ∧ j ≠ x := by
            rw [bset hxl] at hdj
            split at hdj
            · cases hdj
            · exact ⟨hdj, by assumption⟩
          have hlow : d.getD x default ≤ r.getD j default := by
            rcases h4.how j hj with h7 | ⟨e, he', hu, hf, ht, h7⟩
            · rw [h7] at h0 ⊢; exact hle j hj ⟨hjx.1, h0⟩
            · have := hu.c0; omega
          rw [bset hxl] at hdi
          split at hdi
          · rename_i hix; subst hix; rw [hrx]; exact hlow
          · rw [keep i hi hdi]
            have := h.ord i x hi hx hdi hcx.1 hcx.2
            omega
        · intro i hi
          have hmm : ((64 - m : Nat) : Int) = ((64 - (m + 1) : Nat) : Int) + 1 := by omega
          rw [hmm]
          rcases h4.how i hi with h7 | ⟨e, he', hu, hf, ht, h7⟩
          · rw [h7]; have := h.bnd i hi; omega
          · rw [h7]; have := hu.c1; omega
        · have hc := h.cnt
          have hxf : dn[x] = false := by have := hcx.1; simpa [hxl] using this
          have := List.count_set (l := dn) (i := x) (a := true) (b := false) hxl
          rw [this, hxf]
          simp
          omega)
      exact ⟨q, .next st h5, h6⟩
theorem dist_ok {a0 : Int} (ha : a0 ≤ 64) {es : List TEdge} (he : es.length ≤ 1000) (x : Int) : ∃ d, M.spf_Distances a0 es x = some d ∧ Dist a0.toNat es x d ∧ ∀ i, i < a0.toNat → d.getD i default ≤ 1073741760 := by
  have hn : a0.toNat ≤ 64 := by omega
  generalize hN : a0.toNat = n at hn
  obtain ⟨r, h1, h2, h3⟩ := d_l1 hn n 0 (List.replicate n (0 : Int)) (Nat.zero_add _) (by simp) (fun j hj => by omega)
  unfold M.spf_Distances
  rw [nodes_eq ha, Option.bind_some, hN]
  simp only [Int.toNat_natCast]
  have e1 : loopM (M.spf_Distances_l1 (n : Int)) (List.replicate n (0 : Int), (0 : Int)) = some r := loopM_of h1
  rw [gdT (by simp; omega), e1, Option.bind_some]
  by_cases hx : 0 ≤ x ∧ x < n
  · obtain ⟨x, rfl⟩ : ∃ k : Nat, x = k := ⟨x.toNat, by omega⟩
    have hxn : x < n := by omega
    rw [show decide ((x : Int) < 0) = false from decide_eq_false (by omega), show decide ((x : Int) ≥ (n : Int)) = false from decide_eq_false (by omega), Bool.or_self, cond_false, gdT (by simp; omega)]
    simp only [Int.toNat_natCast, Nat.zero_add]
    rw [gdT (by simp; omega)]
    obtain ⟨q, h4, h5⟩ := d_l2 hn he hxn 64 (r.set x 0) (List.replicate n false) (Nat.le_refl _) (by
      have hg : ∀ i, i < n → (r.set x 0).getD i default = if i = x then 0 else -1 := fun i hi => by rw [gset (by omega)]; split; rfl; exact h3 i hi
      have hf : ∀ i, i < n → (List.replicate n false).getD i default = false := fun i hi => by simp [hi]
      refine ⟨by simpa using h2, by simp, ?_, ?_, ?_, ?_, ?_, ?_, ?_, ?_⟩
      · rw [hg x hxn, if_pos rfl]; omega
      · intro i hi h0
        rw [hg i hi] at h0 ⊢
        split
        · rename_i h; subst h; exact .nil
        · rename_i h; rw [if_neg h] at h0; omega
      · intro i hi h0
        rw [hg i hi] at h0 ⊢
        split at h0
        · omega
        · rename_i h; rw [if_neg h]
      · intro i hi hd; rw [hf i hi] at hd; cases hd
      · intro e _ hu hd
        rw [hf _ (by have := hu.f0; have := hu.f1; omega)] at hd; cases hd
      · intro i j hi _ hd; rw [hf i hi] at hd; cases hd
      · intro i hi
        rw [hg i hi]
        split <;> omega
      · have := List.count_le_length (a := false) (l := List.replicate n false)
        rw [List.length_replicate] at this
        omega)
    exact ⟨q, by rw [loopM_of h4, Option.bind_some], h5⟩
  · refine ⟨r, ?_, .none hx h2 h3, fun i hi => by rw [h3 i hi]; omega⟩
    rw [show ((decide (x < 0)) || (decide (x ≥ (n : Int)))) = true by simp; omega]
    rfl
end Nv
