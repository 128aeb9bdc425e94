/- The plain law of RouteBest: no route of the list is preferred to the merged one, and no hop of equal routes is lost. -/
import Derived.Test.YtkonldpliejgpaaNvG3
import Derived.Test.YtkonldpliejgpaaNvG7
import Derived.Test.YtkonldpliejgpaaNvR5
import Derived.Test.YtkonldpliejgpaaNvLW
import Derived.Test.YtkonldpliejgpaaNvS1
set_option maxRecDepth 100000
namespace Nv
open Go
theorem runN_none {β : Type} {g : Nat → Option β} {e : β} {n : Nat} (h : ∀ j, j < n → g j = none) : runN g e 0 n = e := by
  rcases runN_cases g e n 0 with ⟨j, _, h2, h3, _⟩ | ⟨h1, _⟩
  · rw [h j (by omega)] at h3; cases h3
  · exact h1
theorem mer_all {l : List TRoute} {t : TRoute} (h : t ∈ mer l) : ∃ g, g ≠ [] ∧ (∀ x ∈ g, x ∈ l) ∧ g.length ≤ l.length ∧ t = mo g := by
  obtain ⟨h1, _, h3⟩ := mer_ok l
  have e := lk_mem h1 h
  rw [h3] at e
  split at e
  · cases e
  · rename_i hne
    exact ⟨_, hne, fun x hx => (List.mem_filter.1 hx).1, List.length_filter_le _ _, (Option.some.inj e).symm⟩
theorem few_len {l : List TRoute} (h : S.law14_few l = true) : l.length ≤ 40 ∧ ∀ x ∈ l, x.fPath.length ≤ 68 ∧ x.fHops.length ≤ 20 := by
  unfold S.law14_few at h
  simp only [letS] at h
  rw [show runN (S.law14_few_l1 l) (.inl () : Unit ⊕ Bool) 0 l.length = bif anyN (fun i => decide (((l.getD i default).fPath.length : Int) > 68) || decide (((l.getD i default).fHops.length : Int) > 20)) l.length then .inr false else .inl () from runN_any _ _ _ _] at h
  cases h1 : decide ((l.length : Int) > 40) with
  | true => rw [h1] at h; cases h
  | false =>
    rw [h1] at h
    cases h2 : anyN (fun i => decide (((l.getD i default).fPath.length : Int) > 68) || decide (((l.getD i default).fHops.length : Int) > 20)) l.length with
    | true => rw [h2] at h; cases h
    | false =>
      rw [decide_eq_false_iff_not] at h1
      refine ⟨by omega, fun x hx => ?_⟩
      obtain ⟨i, hi, rfl⟩ := List.getElem_of_mem hx
      have h3 := anyN_false.1 h2 i hi
      simp only [Bool.or_eq_false_iff, decide_eq_false_iff_not] at h3
      simp [hi] at h3
      omega
theorem one_all {l : List TRoute} (h : S.law14_One l = true) (i : Nat) (hi : i < l.length) : S.ref15_Valid (l.getD i default) = true ∧ (l.getD i default).fProto = (l.getD 0 default).fProto := by
  unfold S.law14_One at h
  simp only [letS] at h
  cases hf : S.law14_few l with
  | false => rw [hf] at h; simp at h
  | true =>
    rw [hf] at h
    simp only [Bool.not_true, cond_false] at h
    rcases runN_cases (S.law14_One_l1 l) (.inl ()) l.length 0 with ⟨j, _, _, h1, _⟩ | ⟨_, h2⟩
    · generalize runN (S.law14_One_l1 l) (.inl ()) 0 l.length = y at h h1
      unfold S.law14_One_l1 at h1
      simp only [letS] at h1
      obtain ⟨_, rfl⟩ := cond_some h1
      simp at h
    · have h3 := h2 i (Nat.zero_le _) (by omega)
      unfold S.law14_One_l1 at h3
      simp only [letS] at h3
      have h4 := cond_none h3
      simp only [Bool.or_eq_false_iff, Bool.not_eq_false', bne_eq_false_iff_eq] at h4
      exact ⟨h4.1, h4.2⟩
theorem one_few {l : List TRoute} (h : S.law14_One l = true) : S.law14_few l = true := by
  unfold S.law14_One at h
  simp only [letS] at h
  cases hf : S.law14_few l with
  | false => rw [hf] at h; simp at h
  | true => rfl
theorem pref_eq {a b : TRoute} (wa : W_TRoute a) (wb : W_TRoute b) (va : S.ref15_Valid a = true) (vb : S.ref15_Valid b = true) (h2 : a.fProto = b.fProto) : S.ref15_Prefer a b = S.route_Prefer a b := by
  have f0 : wr .i64 a.fFrom = a.fFrom := wr_i64 (u32_in wa.2.2.2.2.2.2.2.2.2.1)
  have f1 : wr .i64 b.fFrom = b.fFrom := wr_i64 (u32_in wb.2.2.2.2.2.2.2.2.2.1)
  have e := cmp_rank h2 (fun h => wr_i64 (by have := valid_pref va h; omega)) (fun h => wr_i64 (by have := valid_pref vb (by rw [← h2]; exact h); omega)) f0 f1 (valid_proto va)
  rw [q_ref, e, q_Prefer h2]
theorem hopsOf_len2 {b : TRoute} : ∀ {g : List TRoute}, (∀ x ∈ g, x.fHops.length ≤ 20) → (hopsOf b g).length ≤ g.length * 20
  | [], _ => by simp [hopsOf]
  | x :: g, h => by
    have h1 := hopsOf_len2 (b := b) (g := g) fun y hy => h y (List.mem_cons_of_mem _ hy)
    have h2 := h x List.mem_cons_self
    unfold hopsOf at h1 ⊢
    rw [List.length_cons]
    cases hc : S.route_Prefer x b == 0 with
    | true => rw [List.filter_cons_of_pos (p := fun x => S.route_Prefer x b == 0) hc, List.flatMap_cons, List.length_append]; omega
    | false => rw [List.filter_cons_of_neg (p := fun x => S.route_Prefer x b == 0) (by rw [hc]; exact Bool.false_ne_true)]; omega
theorem mer_LL {l : List TRoute} (hl : l.length ≤ 40) (hs : ∀ x ∈ l, x.fPath.length ≤ 68 ∧ x.fHops.length ≤ 20) : LL L_TRoute (mer l) ∧ (mer l).length ≤ l.length ∧ ∀ t ∈ mer l, t.fPath.length ≤ 68 ∧ t.fHops.length ≤ 800 := by
  have e : maxLen = 9223372036854775807 := rfl
  have hn : (mer l).length ≤ l.length := by
    have h1 := mg_len _ (ssort (ltc prc) l) (Nat.le_refl _)
    rw [len_ssort] at h1
    exact h1
  have ht : ∀ t ∈ mer l, t.fPath.length ≤ 68 ∧ t.fHops.length ≤ 800 := fun t ht => by
    obtain ⟨g, hg, h1, h2, rfl⟩ := mer_all ht
    refine ⟨(hs _ (h1 _ (bestOf_mem hg))).1, ?_⟩
    have h3 := ddp_len (sortP hcf (hopsOf (bestOf g) g))
    have h4 := (sortP_ok hcf_swo (hopsOf (bestOf g) g)).1
    have h5 := hopsOf_len2 (b := bestOf g) (fun x hx => (hs x (h1 x hx)).2)
    show (hset (hopsOf (bestOf g) g)).length ≤ _
    unfold hset
    omega
  exact ⟨⟨by omega, fun t h => ⟨by have := (ht t h).1; omega, by have := (ht t h).2; omega⟩⟩, hn, ht⟩
theorem mer_proto {l : List TRoute} {p : Int} (hp : ∀ x ∈ l, x.fProto = p) : ∀ t ∈ mer l, t.fProto = p := fun t ht => by
  obtain ⟨g, hg, h1, _, rfl⟩ := mer_all ht
  exact mo_proto hg fun x hx => hp x (h1 x hx)
/-- Two hops are alike. -/
def hq (x y : THop) : Bool := (y.fIface == x.fIface) && ((y.fAddr == x.fAddr) && true)
theorem hq_rfl (x : THop) : hq x x = true := by simp [hq]
theorem hdrop {l : List THop} {h : Nat} (hh : h < l.length) : l.drop h = l.getD h default :: l.drop (h + 1) := by rw [List.drop_eq_getElem_cons hh]; simp [hh]
theorem b_l3 {a0 r2 : List TRoute} {i k j : Nat} (hi : i < a0.length) (hk : k < r2.length) (hj : j < (a0.getD i default).fHops.length) (hn : (r2.getD k default).fHops.length ≤ 100000) : ∀ (n h : Nat) (b : Bool), h + n = (r2.getD k default).fHops.length →
    Iter (M.law14_RouteBest_l3 a0 r2 (i : Int) (k : Int) (j : Int)) (b, (h : Int)) (b || ((r2.getD k default).fHops.drop h).any (hq ((a0.getD i default).fHops.getD j default))) := by
  intro n
  induction n with
  | zero =>
    intro h b e
    rw [List.drop_eq_nil_of_le (by omega)]
    refine .out ?_
    unfold M.law14_RouteBest_l3
    simp only [Int.toNat_natCast]
    rw [gdT (by simp; omega), show decide ((h : Int) < ((r2.getD k default).fHops.length : Int)) = false from decide_eq_false (by omega)]
    simp
  | succ n ih =>
    intro h b e
    have hh : h < (r2.getD k default).fHops.length := by omega
    have hd : (r2.getD k default).fHops.drop h = (r2.getD k default).fHops.getD h default :: (r2.getD k default).fHops.drop (h + 1) := hdrop hh
    have hup : wr .i64 ((h : Int) + 1) = ((h + 1 : Nat) : Int) := by rw [wrN (by omega) (by omega)]; omega
    rw [hd, List.any_cons, ← Bool.or_assoc]
    refine .next ?_ (ih (h + 1) _ (by omega))
    unfold M.law14_RouteBest_l3
    simp only [Int.toNat_natCast]
    rw [gdT (by simp; omega), show decide ((h : Int) < ((r2.getD k default).fHops.length : Int)) = true from decide_eq_true (by omega), cond_true, gdT (by
      have q1 : decide (0 ≤ (k : Int)) = true := decide_eq_true (by omega)
      have q2 : decide ((k : Int) < (r2.length : Int)) = true := decide_eq_true (by omega)
      have q3 : decide (0 ≤ (h : Int)) = true := decide_eq_true (by omega)
      have q5 : decide (0 ≤ (i : Int)) = true := decide_eq_true (by omega)
      have q6 : decide ((i : Int) < (a0.length : Int)) = true := decide_eq_true (by omega)
      have q7 : decide (0 ≤ (j : Int)) = true := decide_eq_true (by omega)
      have q8 : decide ((j : Int) < ((a0.getD i default).fHops.length : Int)) = true := decide_eq_true (by omega)
      rw [q1, q2, q3, q5, q6, q7, q8]
      cases b <;> rfl), hup]
    rfl
theorem b_l2 {a0 r2 : List TRoute} {i k : Nat} (hi : i < a0.length) (hk : k < r2.length) (hn : (r2.getD k default).fHops.length ≤ 100000) (hn2 : (a0.getD i default).fHops.length ≤ 100000) {v : Int} (hv : M.ref15_Prefer (a0.getD i default) (r2.getD k default) = some v)
    (hh : v = 0 → ∀ t ∈ (a0.getD i default).fHops, t ∈ (r2.getD k default).fHops) : ∀ (n j : Nat), j + n = (a0.getD i default).fHops.length → Iter (M.law14_RouteBest_l2 a0 r2 (i : Int) (k : Int)) (j : Int) (.inl ()) := by
  have q1 : decide (0 ≤ (k : Int)) = true := decide_eq_true (by omega)
  have q2 : decide ((k : Int) < (r2.length : Int)) = true := decide_eq_true (by omega)
  have q5 : decide (0 ≤ (i : Int)) = true := decide_eq_true (by omega)
  have q6 : decide ((i : Int) < (a0.length : Int)) = true := decide_eq_true (by omega)
  have st : ∀ j : Nat, M.law14_RouteBest_l2 a0 r2 (i : Int) (k : Int) (j : Int) = (bif (v == 0) && (decide ((j : Int) < (((a0.getD i default).fHops).length : Int))) then ((loopM (M.law14_RouteBest_l3 a0 r2 (i : Int) (k : Int) (j : Int)) (false, 0)).bind fun y12 => bif !y12 then (some (.inr (.inr false))) else (some (.inl (wr .i64 ((j : Int) + 1))))) else (some (.inr (.inl ())))) := fun j => by
    unfold M.law14_RouteBest_l2
    simp only [Int.toNat_natCast]
    rw [hv, Option.bind_some, q1, q2, q5, q6, gdT (by cases v == 0 <;> simp [guardB])]
  intro n
  induction n with
  | zero =>
    intro j e
    refine .out ?_
    rw [st, show decide ((j : Int) < ((a0.getD i default).fHops.length : Int)) = false from decide_eq_false (by omega), Bool.and_false]
    rfl
  | succ n ih =>
    intro j e
    by_cases hv0 : v = 0
    · have hj : j < (a0.getD i default).fHops.length := by omega
      have hup : wr .i64 ((j : Int) + 1) = ((j + 1 : Nat) : Int) := by rw [wrN (by omega) (by omega)]; omega
      refine .next ?_ (ih (j + 1) (by omega))
      have i3 := b_l3 hi hk hj hn _ 0 false (Nat.zero_add _)
      have hm : (a0.getD i default).fHops.getD j default ∈ (a0.getD i default).fHops := hget_mem hj
      have ha : (false || ((r2.getD k default).fHops.drop 0).any (hq ((a0.getD i default).fHops.getD j default))) = true := by
        rw [Bool.false_or, List.drop_zero, List.any_eq_true]
        exact ⟨_, hh hv0 _ hm, hq_rfl _⟩
      rw [ha] at i3
      have e3 := loopM_of i3
      rw [st, hv0, show decide ((j : Int) < ((a0.getD i default).fHops.length : Int)) = true from decide_eq_true (by omega), show ((0 : Int)) = ((0 : Nat) : Int) from rfl, e3, Option.bind_some, hup]
      rfl
    · refine .out ?_
      rw [st, show (v == 0) = false by simpa using hv0]
      rfl
theorem b_l1 {a0 r2 : List TRoute} (hl : a0.length ≤ 100000) (hl2 : LL L_TRoute r2)
    (hk : ∀ i, i < a0.length → ∃ k v : Nat, k < r2.length ∧ S.ref15_Find r2 (a0.getD i default).fPrefix = (k : Int) ∧ (r2.getD k default).fHops.length ≤ 100000 ∧ (a0.getD i default).fHops.length ≤ 100000 ∧ M.ref15_Prefer (a0.getD i default) (r2.getD k default) = some (v : Int) ∧ (v = 0 → ∀ t ∈ (a0.getD i default).fHops, t ∈ (r2.getD k default).fHops)) :
    ∀ (n i : Nat), i + n = a0.length → Iter (M.law14_RouteBest_l1 a0 r2) (i : Int) (.inl ()) := by
  intro n
  induction n with
  | zero =>
    intro i e
    refine .out ?_
    unfold M.law14_RouteBest_l1
    rw [show decide ((i : Int) < (a0.length : Int)) = false from decide_eq_false (by omega)]
    rfl
  | succ n ih =>
    intro i e
    have hi : i < a0.length := by omega
    obtain ⟨k, v, h1, h2, h3, h4, h5, h6⟩ := hk i hi
    have hup : wr .i64 ((i : Int) + 1) = ((i + 1 : Nat) : Int) := by rw [wrN (by omega) (by omega)]; omega
    have i2 := loopM_of (b_l2 hi h1 h3 h4 h5 (fun hz => h6 (by omega)) _ 0 (Nat.zero_add _))
    refine .next ?_ (ih (i + 1) (by omega))
    unfold M.law14_RouteBest_l1
    simp only [Int.toNat_natCast]
    have q1 : decide (0 ≤ (k : Int)) = true := decide_eq_true (by omega)
    have q2 : decide ((k : Int) < (r2.length : Int)) = true := decide_eq_true (by omega)
    have q3 : decide ((k : Int) < 0) = false := decide_eq_false (by omega)
    have q4 : decide ((k : Int) ≥ (r2.length : Int)) = false := decide_eq_false (by omega)
    have q5 : decide (0 ≤ (i : Int)) = true := decide_eq_true (by omega)
    have q6 : decide ((i : Int) < (a0.length : Int)) = true := decide_eq_true (by omega)
    have q7 : decide ((v : Int) < 0) = false := decide_eq_false (by omega)
    rw [q6, cond_true, s_ref15_Find _ _ hl2, Option.bind_some, h2]
    simp only [Int.toNat_natCast]
    rw [q5, q3, q4, q1, q2, gdT (by simp)]
    simp only [gc, Bool.or_false, Bool.not_false, cond_true]
    rw [h5, Option.bind_some, gdT (by simp [guardB]), q7, Bool.or_false, cond_false, show ((0 : Int)) = ((0 : Nat) : Int) from rfl, i2, Option.bind_some, hup]
    rfl
theorem find_idx (l : List TRoute) (p : TPrefix) : S.ref15_Find l p = idxN (fun j => sameP p (l.getD j default)) l.length := rfl
theorem plain_RouteBest (a0 : List TRoute) (w0 : a0.length ≤ maxLen ∧ a0.length * 136 ≤ reachBytes ∧ ∀ y ∈ a0, W_TRoute y) : M.law14_RouteBest a0 = some true := by
  have hL : LL L_TRoute a0 := ⟨w0.1, fun x hx => LofW_TRoute (w0.2.2 x hx)⟩
  unfold M.law14_RouteBest
  rw [s_law14_One a0 hL, Option.bind_some]
  cases hf : S.law14_One a0 with
  | false => rfl
  | true =>
    obtain ⟨h40, hs⟩ := few_len (one_few hf)
    have hv : ∀ x ∈ a0, S.ref15_Valid x = true ∧ x.fProto = (a0.getD 0 default).fProto := fun x hx => by
      obtain ⟨i, hi, rfl⟩ := List.getElem_of_mem hx
      have := one_all hf i hi
      simpa [hi] using this
    have hE : ∀ x ∈ a0, ∀ y ∈ a0, S.ref15_Prefer x y = S.route_Prefer x y := fun x hx y hy => pref_eq (w0.2.2 x hx) (w0.2.2 y hy) (hv x hx).1 (hv y hy).1 ((hv x hx).2.trans (hv y hy).2.symm)
    have e1 := merge_eq (l := a0) (by omega) hL.2 (fun x hx => by have := (hs x hx).2; omega) (fun x hx => by have := (hs x hx).1; omega)
    obtain ⟨m1, m2, m3⟩ := mer_LL (l := a0) h40 hs
    obtain ⟨o1, _, o3⟩ := mer_ok a0
    have i1 := b_l1 (a0 := a0) (r2 := mer a0) (by omega) m1 (fun i hi => by
      have hx := rget_mem hi
      generalize a0.getD i default = x at *
      have hxg : x ∈ a0.filter (sameP x.fPrefix) := List.mem_filter.2 ⟨hx, peq_rfl _⟩
      have hne : a0.filter (sameP x.fPrefix) ≠ [] := fun h => by rw [h] at hxg; cases hxg
      have hp : ∀ y ∈ a0.filter (sameP x.fPrefix), y.fProto = (a0.getD 0 default).fProto := fun y hy => (hv y (List.mem_filter.1 hy).1).2
      have el := o3 x.fPrefix
      rw [if_neg hne] at el
      obtain ⟨tm, tp⟩ := lk_some el
      obtain ⟨k, hk, hkt, hkf⟩ : ∃ k : Nat, k < (mer a0).length ∧ (mer a0).getD k default = mo (a0.filter (sameP x.fPrefix)) ∧ S.ref15_Find (mer a0) x.fPrefix = (k : Int) := by
        rw [find_idx]
        rcases idxN_cases (fun j => sameP x.fPrefix ((mer a0).getD j default)) (mer a0).length with ⟨j, j1, j2, _, j4⟩ | ⟨_, j2⟩
        · refine ⟨j, j1, ?_, j4⟩
          have jm : (mer a0).getD j default ∈ mer a0 := rget_mem j1
          have jp : ((mer a0).getD j default).fPrefix = x.fPrefix := peq_iff.1 j2
          have := lk_mem o1 jm
          rw [jp, el] at this
          exact (Option.some.inj this).symm
        · obtain ⟨q, hq, e⟩ := List.getElem_of_mem tm
          have := j2 q hq
          rw [show (mer a0).getD q default = mo (a0.filter (sameP x.fPrefix)) by simp [hq, e]] at this
          rw [show sameP x.fPrefix (mo (a0.filter (sameP x.fPrefix))) = true from peq_iff.2 tp] at this
          cases this
      have hb := bestOf_mem hne
      have hba := (List.mem_filter.1 hb).1
      have e2 : S.ref15_Prefer x (mo (a0.filter (sameP x.fPrefix))) = S.ref15_Prefer x (bestOf (a0.filter (sameP x.fPrefix))) := by rw [q_ref, q_ref]; rfl
      have hpr : x.fProto = (bestOf (a0.filter (sameP x.fPrefix))).fProto := (hv x hx).2.trans (hv _ hba).2.symm
      have hle : 0 ≤ S.ref15_Prefer x (mo (a0.filter (sameP x.fPrefix))) := by
        rw [e2, hE x hx _ hba]
        have h1 := best_le hp x hxg
        exact Int.not_lt.1 fun h3 => (pf_lt hpr).1 h3 h1
      obtain ⟨v, hv2⟩ : ∃ v : Nat, S.ref15_Prefer x (mo (a0.filter (sameP x.fPrefix))) = (v : Int) := ⟨_, (Int.toNat_of_nonneg hle).symm⟩
      have hkm := rget_mem hk
      refine ⟨k, v, hk, hkf, by have := (m3 _ hkm).2; omega, by have := (hs x hx).2; omega, ?_, fun hz t ht => ?_⟩
      · rw [s_ref15_Prefer _ _ (hL.2 x hx) (m1.2 _ hkm), hkt, hv2]
      · rw [hkt]
        refine (mo_hops hne hp t).2 ⟨x, hxg, (pf_eq hpr).1 ?_, ht⟩
        rw [← hE x hx _ hba, ← e2, hv2, hz]
        rfl) _ 0 (Nat.zero_add _)
    simp only [Bool.not_true, cond_false]
    rw [e1, Option.bind_some, show ((0 : Int)) = ((0 : Nat) : Int) from rfl, loopM_of i1, Option.bind_some]
    show (M.law14_sane.bind fun r19 => some r19) = some true
    rw [sane_some]
    rfl
end Nv
