/- The plain law of RibCandidates: the candidates are the documented routes. -/
import Derived.Test.YtghjgndlgliieaaNvT1
import Derived.Test.YtghjgndlgliieaaNvLW
import Derived.Test.YtghjgndlgliieaaNvLibB
import Derived.Test.YtghjgndlgliieaaNvS1
import Derived.Test.YtghjgndlgliieaaNvLibC
namespace Nv
open Go
theorem cond_none {α : Type} {b : Bool} {x : α} (h : (bif b then some x else none) = none) : b = false := by cases b <;> simp_all
theorem cond_some {α : Type} {b : Bool} {x y : α} (h : (bif b then some x else none) = some y) : b = true ∧ x = y := by cases b <;> simp_all
theorem runN_none {β : Type} {g : Nat → Option β} {e : β} {n : Nat} (h : ∀ j, j < n → g j = none) : runN g e 0 n = e := by
  rcases runN_cases g e n 0 with ⟨j, _, h2, h3, _⟩ | ⟨h1, _⟩
  · rw [h j (by omega)] at h3; cases h3
  · exact h1
theorem getD_mem {l : List TRoute} {i : Nat} (hi : i < l.length) : l.getD i default ∈ l := by rw [List.getD_eq_getElem?_getD, List.getElem?_eq_getElem hi]; exact List.getElem_mem hi
theorem same_rfl (x : TRoute) : S.ref15_Same x x = true := by
  unfold S.ref15_Same
  simp only [letS, beq_self_eq_true, bne_self_eq_false, Bool.and_true, Bool.not_true, Bool.or_false, Bool.false_or, cond_false]
  rw [runN_none (g := S.ref15_Same_l1 x x) (fun j _ => by unfold S.ref15_Same_l1; simp)]
  simp only [Sum.elim_inl]
  rw [runN_none (g := S.ref15_Same_l2 x x) (fun j _ => by unfold S.ref15_Same_l2; simp)]
  rfl
theorem sameAll_rfl (l : List TRoute) : S.ref15_SameAll l l = true := by
  unfold S.ref15_SameAll
  simp only [letS, bne_self_eq_false, cond_false]
  rw [runN_none (g := S.ref15_SameAll_l1 l l) (fun j _ => by unfold S.ref15_SameAll_l1; simp only [letS, same_rfl]; rfl)]
  rfl
/-- What the check of a table says of each route. -/
theorem table_all {l : List TRoute} {p : Int} (hp : p ≠ 0) (h : S.ref15_Table l p = true) : ∀ x ∈ l, S.ref15_Valid x = true ∧ x.fProto = p := by
  intro x hx
  obtain ⟨i, hi, rfl⟩ := List.getElem_of_mem hx
  unfold S.ref15_Table at h
  simp only [letS] at h
  rcases runN_cases (S.ref15_Table_l1 l p) (.inl ()) l.length 0 with ⟨j, _, _, h1, _⟩ | ⟨_, h2⟩
  · generalize runN (S.ref15_Table_l1 l p) (.inl ()) 0 l.length = y at h h1
    unfold S.ref15_Table_l1 at h1
    simp only [letS] at h1
    obtain ⟨_, rfl⟩ := cond_some h1
    simp at h
  · have h3 := h2 i (Nat.zero_le _) (by omega)
    unfold S.ref15_Table_l1 at h3
    simp only [letS] at h3
    have h4 := cond_none h3
    simp only [Bool.or_eq_false_iff, Bool.not_eq_false', Bool.and_eq_false_iff, bne_eq_false_iff_eq] at h4
    have h5 := h4.1.1
    have h6 : (l.getD i default).fProto = p := by
      rcases h4.1.2 with e | e
      · exact absurd e hp
      · exact e
    constructor
    · simpa [hi] using h5
    · simpa [hi] using h6
theorem valid_class {x : TRoute} (h : S.ref15_Valid x = true) (h5 : x.fProto = 5) : x.fClass = 1 ∨ x.fClass = 2 ∨ x.fClass = 3 ∨ x.fClass = 4 := by
  unfold S.ref15_Valid at h
  simp only [letS] at h
  generalize (S.ref4_Valid x.fPrefix) = q1 at h
  generalize (((!q1) || !(bif !(!q1) then S.ref15_within x.fTag 0 65535 else default)) || (decide ((x.fPath.length : Int) > 64))) = q2 at h
  cases q2 with
  | true => simp at h
  | false =>
    simp only [cond_false] at h
    cases hy : runN (S.ref15_Valid_l1 x) (.inl ()) 0 x.fPath.length with
    | inr y =>
      rw [hy] at h
      simp only [Sum.elim_inr] at h
      subst h
      rcases runN_cases (S.ref15_Valid_l1 x) (.inl ()) x.fPath.length 0 with ⟨j, _, _, h1, _⟩ | ⟨h1, _⟩
      · rw [hy] at h1
        unfold S.ref15_Valid_l1 at h1
        simp only [letS] at h1
        have := (cond_some h1).2
        simp at this
      · rw [hy] at h1; cases h1
    | inl u =>
      rw [hy] at h
      simp only [Sum.elim_inl] at h
      rw [h5] at h
      have h : S.ref15_validPath x = true := h
      by_cases c1 : x.fClass = 1
      · exact .inl c1
      by_cases c2 : x.fClass = 2
      · exact .inr (.inl c2)
      by_cases c3 : x.fClass = 3
      · exact .inr (.inr (.inl c3))
      by_cases c4 : x.fClass = 4
      · exact .inr (.inr (.inr c4))
      exfalso
      unfold S.ref15_validPath S.ref15_validPath_k1 S.ref15_validPath_k2 at h
      rw [show (x.fClass == 1) = false by simpa using c1, show (x.fClass == 2) = false by simpa using c2, show (x.fClass == 3) = false by simpa using c3, show (x.fClass == 4) = false by simpa using c4] at h
      simp [letS] at h
/-- A loop that appends what a test lets through. -/
theorem filt_loop {f : List TRoute × Int → Option ((List TRoute × Int) ⊕ List TRoute)} {l : List TRoute} {q : TRoute → Bool} {B : Nat} (hs : ∀ (i : Nat) (acc : List TRoute), i < l.length → acc.length ≤ B + i → f (acc, (i : Int)) = some (.inl (bif q (l.getD i default) then acc ++ [l.getD i default] else acc, ((i + 1 : Nat) : Int))))
    (he : ∀ acc, f (acc, (l.length : Int)) = some (.inr acc)) : ∀ (k i : Nat) (acc : List TRoute), i + k = l.length → acc.length ≤ B + i → Iter f (acc, (i : Int)) (acc ++ (l.drop i).filter q) := by
  intro k
  induction k with
  | zero =>
    intro i acc h1 h2
    obtain rfl : i = l.length := by omega
    rw [List.drop_length, List.filter_nil, List.append_nil]
    exact .out (he acc)
  | succ k ih =>
    intro i acc h1 h2
    have hi : i < l.length := by omega
    have hd : l.drop i = l.getD i default :: l.drop (i + 1) := by rw [List.drop_eq_getElem_cons hi]; simp [hi]
    have hst := hs i acc hi h2
    rw [hd]
    cases hq : q (l.getD i default) with
    | true =>
      rw [hq] at hst
      have := ih (i + 1) (acc ++ [l.getD i default]) (by omega) (by simp; omega)
      rw [List.filter_cons_of_pos hq, List.append_cons]
      exact .next hst this
    | false =>
      rw [hq] at hst
      have := ih (i + 1) acc (by omega) (by omega)
      rw [List.filter_cons_of_neg (by rw [hq]; exact Bool.false_ne_true)]
      exact .next hst this
def Cp (x : TRoute) : Prop := x.fPath.length * 8 ≤ 140737488355328 ∧ x.fHops.length * 16 ≤ 140737488355328
theorem clone_id {x : TRoute} (h : Cp x) : M.rib_clone x = some x := by
  unfold M.rib_clone M.slices_Clone_int_int M.slices_Clone_api_Hop_api_Hop
  have h1 := h.1; have h2 := h.2
  rw [gdT (by simp; omega), Option.bind_some, gdT (by simp; omega), Option.bind_some]
def q3 (x : TRoute) : Bool := x.fClass == 3
def qp (x : TRoute) : Bool := ((x.fClass == 2) || (x.fClass == 3)) || (x.fClass == 4)
def qr (x : TRoute) : Bool := x.fClass != 1
theorem cand_eq {t : TTables} (h1 : t.fLS.length ≤ 20) (h2 : t.fDV.length ≤ 20) (h3 : t.fPV.length ≤ 20) (c1 : ∀ x ∈ t.fLS, Cp x) (c2 : ∀ x ∈ t.fDV, Cp x) (c3 : ∀ x ∈ t.fPV, Cp x) :
    M.rib_Candidates t = some (t.fLS ++ t.fDV.filter q3 ++ t.fPV.filter qp) := by
  have up : ∀ i : Nat, i ≤ 100 → wr .i64 ((i : Int) + 1) = ((i + 1 : Nat) : Int) := fun i hi => by rw [wrN (by omega) (by omega)]; omega
  have l1 := filt_loop (f := M.rib_Candidates_l1 t) (l := t.fLS) (q := fun _ => true) (B := 0) (fun i acc hi ha => by
    unfold M.rib_Candidates_l1
    simp only [Int.toNat_natCast, up i (by omega)]
    rw [s_then (decide_eq_true (by omega)) rfl, gdT (by simp; omega), clone_id (c1 _ (getD_mem hi)), Option.bind_some, gdT (by simp; omega)]
    rfl) (fun acc => by
    unfold M.rib_Candidates_l1
    exact s_else (decide_eq_false (by simp)) rfl) t.fLS.length 0 [] (Nat.zero_add _) (Nat.zero_le _)
  have e1 : ([] : List TRoute) ++ (t.fLS.drop 0).filter (fun _ => true) = t.fLS := by simp
  rw [e1] at l1
  have l2 := filt_loop (f := M.rib_Candidates_l2 t) (l := t.fDV) (q := q3) (B := 20) (fun i acc hi ha => by
    unfold M.rib_Candidates_l2 M.rib_Candidates_k1
    simp only [Int.toNat_natCast, up i (by omega)]
    rw [s_then (decide_eq_true (by omega)) rfl, gdT (by simp; omega), clone_id (c2 _ (getD_mem hi)), Option.bind_some, gdT (by simp; omega)]
    show (bif q3 _ then _ else _) = _
    cases q3 (t.fDV.getD i default) <;> rfl) (fun acc => by
    unfold M.rib_Candidates_l2
    exact s_else (decide_eq_false (by simp)) rfl) t.fDV.length 0 t.fLS (Nat.zero_add _) (by omega)
  rw [List.drop_zero] at l2
  have l3 := filt_loop (f := M.rib_Candidates_l3 t) (l := t.fPV) (q := qp) (B := 40) (fun i acc hi ha => by
    unfold M.rib_Candidates_l3 M.rib_Candidates_k2
    simp only [Int.toNat_natCast, up i (by omega)]
    rw [s_then (decide_eq_true (by omega)) rfl, gdT (by simp; omega), clone_id (c3 _ (getD_mem hi)), Option.bind_some, gdT (by simp; omega)]
    show (bif qp _ then _ else _) = _
    cases qp (t.fPV.getD i default) <;> rfl) (fun acc => by
    unfold M.rib_Candidates_l3
    exact s_else (decide_eq_false (by simp)) rfl) t.fPV.length 0 (t.fLS ++ t.fDV.filter q3) (Nat.zero_add _) (by
      have := List.length_filter_le q3 t.fDV
      simp; omega)
  rw [List.drop_zero] at l3
  unfold M.rib_Candidates
  rw [show ((0 : Int)) = ((0 : Nat) : Int) from rfl, loopM_of l1, Option.bind_some, loopM_of l2, Option.bind_some, loopM_of l3, Option.bind_some]
theorem ref_eq {t : TTables} (h1 : t.fLS.length ≤ 20) (h2 : t.fDV.length ≤ 20) (h3 : t.fPV.length ≤ 20) :
    M.ref20_Candidates t = some (t.fLS ++ t.fDV.filter q3 ++ t.fPV.filter qr) := by
  have up : ∀ i : Nat, i ≤ 100 → wr .i64 ((i : Int) + 1) = ((i + 1 : Nat) : Int) := fun i hi => by rw [wrN (by omega) (by omega)]; omega
  have l2 := filt_loop (f := M.ref20_Candidates_l1 t) (l := t.fDV) (q := q3) (B := 20) (fun i acc hi ha => by
    unfold M.ref20_Candidates_l1 M.ref20_Candidates_k1
    simp only [Int.toNat_natCast, up i (by omega)]
    rw [s_then (decide_eq_true (by omega)) rfl, gdT (by simp; omega), gdT (by simp; omega)]
    show (bif q3 _ then _ else _) = _
    cases q3 (t.fDV.getD i default) <;> rfl) (fun acc => by
    unfold M.ref20_Candidates_l1
    exact s_else (decide_eq_false (by simp)) rfl) t.fDV.length 0 t.fLS (Nat.zero_add _) (by omega)
  rw [List.drop_zero] at l2
  have l3 := filt_loop (f := M.ref20_Candidates_l2 t) (l := t.fPV) (q := qr) (B := 40) (fun i acc hi ha => by
    unfold M.ref20_Candidates_l2 M.ref20_Candidates_k2
    simp only [Int.toNat_natCast, up i (by omega)]
    rw [s_then (decide_eq_true (by omega)) rfl, gdT (by simp; omega), gdT (by simp; omega)]
    show (bif qr _ then _ else _) = _
    cases qr (t.fPV.getD i default) <;> rfl) (fun acc => by
    unfold M.ref20_Candidates_l2
    exact s_else (decide_eq_false (by simp)) rfl) t.fPV.length 0 (t.fLS ++ t.fDV.filter q3) (Nat.zero_add _) (by
      have := List.length_filter_le q3 t.fDV
      simp; omega)
  rw [List.drop_zero] at l3
  unfold M.ref20_Candidates
  rw [gdT (by simp; omega), show ((0 : Int)) = ((0 : Nat) : Int) from rfl, loopM_of l2, Option.bind_some, loopM_of l3, Option.bind_some]
theorem plain_RibCandidates (a0 : TTables) (w0 : W_TTables a0) : M.law19_RibCandidates a0 = some true := by
  have hL := LofW_TTables w0
  have er : reachBytes = 140737488351232 := rfl
  have cp : ∀ x, W_TRoute x → Cp x := fun x w => by
    have p := w.2.2.2.2.2.2.2.2.1.2.1
    have q := w.2.2.2.2.2.2.2.2.2.2.2.1.2.1
    exact ⟨by omega, by omega⟩
  unfold M.law19_RibCandidates
  by_cases hb : (((a0.fLS.length : Int) > 20) ∨ ((a0.fDV.length : Int) > 20)) ∨ ((a0.fPV.length : Int) > 20)
  · have e : (((decide ((a0.fLS.length : Int) > 20)) || (decide ((a0.fDV.length : Int) > 20))) || (decide ((a0.fPV.length : Int) > 20))) = true := by simpa using hb
    simp only [e, gc, Bool.not_true, cond_false, Option.bind_some, Bool.true_or, cond_true]
  · have e : (((decide ((a0.fLS.length : Int) > 20)) || (decide ((a0.fDV.length : Int) > 20))) || (decide ((a0.fPV.length : Int) > 20))) = false := by simpa using hb
    simp only [e, gc, Bool.not_false, cond_true, Bool.false_or]
    rw [s_ref15_Table a0.fLS 3 hL.1, Option.bind_some]
    cases t1 : S.ref15_Table a0.fLS 3 with
    | false => simp
    | true =>
      simp only [Bool.not_true, Bool.not_false, cond_true, Bool.false_or]
      rw [s_ref15_Table a0.fDV 4 hL.2.1, Option.bind_some]
      cases t2 : S.ref15_Table a0.fDV 4 with
      | false => simp
      | true =>
        simp only [Bool.not_true, Bool.not_false, cond_true, Bool.false_or]
        rw [s_ref15_Table a0.fPV 5 hL.2.2.1, Option.bind_some]
        cases t3 : S.ref15_Table a0.fPV 5 with
        | false => simp
        | true =>
          simp only [Bool.not_true, cond_false]
          have c1 := fun x hx => cp x (w0.1.2.2 x hx)
          have c2 := fun x hx => cp x (w0.2.1.2.2 x hx)
          have c3 := fun x hx => cp x (w0.2.2.1.2.2 x hx)
          have f : a0.fPV.filter qr = a0.fPV.filter qp := by
            apply List.filter_congr
            intro x hx
            obtain ⟨v, p⟩ := table_all (by decide) t3 x hx
            unfold qr qp
            rcases valid_class v p with h | h | h | h <;> rw [h] <;> rfl
          rw [cand_eq (by omega) (by omega) (by omega) c1 c2 c3, Option.bind_some, ref_eq (t := ⟨a0.fLS, a0.fDV, a0.fPV, []⟩) (by simp; omega) (by simp; omega) (by simp; omega), Option.bind_some,
            cand_eq (t := ⟨a0.fLS, a0.fDV, a0.fPV, []⟩) (by simp; omega) (by simp; omega) (by simp; omega) c1 c2 c3]
          simp only [f]
          have hl : LL L_TRoute (a0.fLS ++ a0.fDV.filter q3 ++ a0.fPV.filter qp) := by
            refine ⟨?_, fun x hx => ?_⟩
            · have p1 := List.length_filter_le q3 a0.fDV
              have p2 := List.length_filter_le qp a0.fPV
              have := maxLen_eq
              simp; omega
            · simp only [List.mem_append, List.mem_filter] at hx
              rcases hx with (hx | hx) | hx
              · exact hL.1.2 x hx
              · exact hL.2.1.2 x hx.1
              · exact hL.2.2.1.2 x hx.1
          rw [s_ref15_SameAll _ _ hl hl, sameAll_rfl, Option.bind_some]
          simp only [cond_true, Option.bind_some, Bool.and_true]
          rw [s_ref15_SameAll _ _ hl hl, sameAll_rfl, Option.bind_some, sane_some]
          rfl
end Nv
