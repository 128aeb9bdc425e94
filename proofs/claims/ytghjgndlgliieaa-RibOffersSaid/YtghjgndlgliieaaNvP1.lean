/- The plain law of RibOffers: what is redistributed belongs to the table's routes. -/
import Derived.Test.YtghjgndlgliieaaNvX3
import Derived.Test.YtghjgndlgliieaaNvQ2
import Derived.Test.YtghjgndlgliieaaNvLW
import Derived.Test.YtghjgndlgliieaaNvS1
set_option maxRecDepth 100000
namespace Nv
open Go
def plt (p q : TPrefix) : Prop := p.fAddr < q.fAddr ∨ (p.fAddr = q.fAddr ∧ p.fLen < q.fLen)
def peq (p q : TPrefix) : Bool := (p.fAddr == q.fAddr) && ((p.fLen == q.fLen) && true)
theorem peq_iff {p q : TPrefix} : peq p q = true ↔ p = q := by cases p; cases q; simp [peq]
theorem peq_not {p q : TPrefix} : peq p q = false ↔ p ≠ q := by rw [ne_eq, ← peq_iff]; simp
theorem plt_tr {p q r : TPrefix} (h : plt p q) (k : plt q r) : plt p r := by unfold plt at *; omega
theorem plt_ne {p q : TPrefix} (h : plt p q) : p ≠ q := by rintro rfl; unfold plt at h; omega
theorem refC {p q : TPrefix} (h : ¬ S.ref4_Compare p q ≥ 0) : plt p q := by
  unfold S.ref4_Compare at h
  cases hb : ((decide (p.fAddr < q.fAddr)) || ((p.fAddr == q.fAddr) && (decide (p.fLen < q.fLen)))) with
  | true => simpa [plt] using hb
  | false =>
    rw [hb] at h
    simp only [cond_false] at h
    exact absurd (by cases ((p.fAddr == q.fAddr) && ((p.fLen == q.fLen) && true)) <;> simp) h
theorem table_ok {t : List TRoute} (h : S.ref15_Table t 0 = true) (hl : t.length ≤ 30) : (∀ i, i < t.length → S.ref15_Valid (t.getD i default) = true) ∧ ∀ i, i + 1 < t.length → plt (t.getD i default).fPrefix (t.getD (i + 1) default).fPrefix := by
  unfold S.ref15_Table at h
  simp only [letS] at h
  have h0 : ∀ i, i < t.length → S.ref15_Table_l1 t 0 i = none := by
    rcases runN_cases (S.ref15_Table_l1 t 0) (.inl ()) t.length 0 with ⟨j, _, _, h1, _⟩ | ⟨_, h2⟩
    · have h2 : runN (S.ref15_Table_l1 t 0) (.inl ()) 0 t.length = .inr false := by
        unfold S.ref15_Table_l1 at h1
        simp only [letS] at h1
        rcases cond_or h1 with ⟨_, h3⟩ | ⟨_, h3⟩
        · exact h3.symm
        · cases h3
      rw [h2] at h; cases h
    · exact fun i hi => h2 i (Nat.zero_le _) (by omega)
  have h1 : ∀ i, i < t.length → _ := fun i hi => (by have := h0 i hi; unfold S.ref15_Table_l1 at this; simp only [letS] at this; exact (cond_non this).1)
  have hv : ∀ i, i < t.length → S.ref15_Valid (t.getD i default) = true := fun i hi => by
    have := h1 i hi
    simp only [Bool.or_eq_false_iff, Bool.not_eq_false'] at this
    exact this.1.1
  refine ⟨hv, fun i hi => refC ?_⟩
  have h2 := h1 (i + 1) hi
  rw [hv _ hi, wrN (by omega) (by omega), show (((i + 1 : Nat) : Int) - 1).toNat = i by omega, show decide (((i + 1 : Nat) : Int) > 0) = true from decide_eq_true (by omega)] at h2
  simpa using h2
theorem asc_all {t : List TRoute} (h : ∀ i, i + 1 < t.length → plt (t.getD i default).fPrefix (t.getD (i + 1) default).fPrefix) : ∀ (k i : Nat), i + k + 1 < t.length → plt (t.getD i default).fPrefix (t.getD (i + k + 1) default).fPrefix
  | 0, i, hi => h i hi
  | k + 1, i, hi => plt_tr (asc_all h k i (by omega)) (h (i + k + 1) hi)
theorem asc_ne {t : List TRoute} (h : ∀ i, i + 1 < t.length → plt (t.getD i default).fPrefix (t.getD (i + 1) default).fPrefix) {i j : Nat} (hij : i < j) (hj : j < t.length) : (t.getD i default).fPrefix ≠ (t.getD j default).fPrefix := by
  have := asc_all h (j - i - 1) i (by omega)
  rw [show i + (j - i - 1) + 1 = j by omega] at this
  exact plt_ne this
theorem o_l2 {t a : List TRoute} {fr i j0 : Nat} (ht : t.length ≤ 30) (hi : i < a.length) (hj : j0 < t.length) (he : (t.getD j0 default).fPrefix = (a.getD i default).fPrefix) (hne : ∀ j, j < j0 → (t.getD j default).fPrefix ≠ (a.getD i default).fPrefix) :
    ∀ (n j : Nat), j + n = j0 → Iter (M.law19_RibOffers_l2 t a ((fr : Int), (i : Int))) (j : Int) (j0 : Int) := by
  intro n
  induction n with
  | zero =>
    intro j h
    obtain rfl : j = j0 := by omega
    refine .out ?_
    unfold M.law19_RibOffers_l2
    simp only [Int.toNat_natCast]
    rw [show decide ((j : Int) < (t.length : Int)) = true from decide_eq_true (by omega), gdT (by simp [guardB]; omega)]
    rw [show (((((t.getD j default).fPrefix).fAddr) == (((a.getD i default).fPrefix).fAddr)) && (((((t.getD j default).fPrefix).fLen) == (((a.getD i default).fPrefix).fLen)) && true)) = true from peq_iff.2 he]
    rfl
  | succ n ih =>
    intro j h
    refine .next ?_ (ih (j + 1) (by omega))
    unfold M.law19_RibOffers_l2
    simp only [Int.toNat_natCast]
    rw [show decide ((j : Int) < (t.length : Int)) = true from decide_eq_true (by omega), gdT (by simp [guardB]; omega)]
    rw [show (((((t.getD j default).fPrefix).fAddr) == (((a.getD i default).fPrefix).fAddr)) && (((((t.getD j default).fPrefix).fLen) == (((a.getD i default).fPrefix).fLen)) && true)) = false from peq_not.2 (hne j (by omega)), up1 (by omega)]
    rfl
theorem o_l3 {t : List TRoute} {l : List TRedist} {j0 : Nat} (hl : l.length ≤ 30) : ∀ (n j : Nat) (b : Bool), j + n = l.length → Iter (M.law19_RibOffers_l3 t l (j0 : Int)) (b, (j : Int)) (b || (l.drop j).any fun d => d.fFrom == (t.getD j0 default).fProto) := by
  intro n
  induction n with
  | zero =>
    intro j b h
    refine .out ?_
    unfold M.law19_RibOffers_l3
    rw [show decide ((j : Int) < (l.length : Int)) = false from decide_eq_false (by omega), List.drop_eq_nil_of_le (by omega)]
    simp
  | succ n ih =>
    intro j b h
    have hj : j < l.length := by omega
    have := ih (j + 1) (b || ((l.getD j default).fFrom == (t.getD j0 default).fProto)) (by omega)
    rw [gdrop hj, List.any_cons, ← Bool.or_assoc]
    refine .next ?_ this
    unfold M.law19_RibOffers_l3
    simp only [Int.toNat_natCast]
    rw [show decide ((j : Int) < (l.length : Int)) = true from decide_eq_true (by omega), cond_true, gdT (by cases b <;> simp [guardB]), up1 (by omega)]
theorem redOf_len (r : TRouter) (l : List TRedist) (p : Int) (x : TRoute) : (redOf r l p x).length ≤ 1 := opt1_len r x p _
theorem next_red {r : TRouter} {l : List TRedist} {p : Int} {t : List TRoute} {y : TRoute} {rest : List TRoute} : ∀ (n fr : Nat), fr + n = t.length → (t.drop fr).flatMap (redOf r l p) = y :: rest →
    ∃ j, fr ≤ j ∧ j < t.length ∧ y ∈ redOf r l p (t.getD j default) ∧ rest = (t.drop (j + 1)).flatMap (redOf r l p) := by
  intro n
  induction n with
  | zero => intro fr h h1; rw [List.drop_eq_nil_of_le (by omega)] at h1; cases h1
  | succ n ih =>
    intro fr h h1
    have hf : fr < t.length := by omega
    rw [gdrop hf, List.flatMap_cons] at h1
    have hlen := redOf_len r l p (t.getD fr default)
    match hr : redOf r l p (t.getD fr default), hlen with
    | [], _ =>
      rw [hr, List.nil_append] at h1
      obtain ⟨j, h2, h3⟩ := ih (fr + 1) (by omega) h1
      exact ⟨j, by omega, h3⟩
    | [z], _ =>
      rw [hr, List.cons_append, List.nil_append] at h1
      cases h1
      exact ⟨fr, Nat.le_refl _, hf, by rw [hr]; exact List.mem_singleton.2 rfl, rfl⟩
    | _ :: _ :: _, h => simp at h
theorem o_l1 {r : TRouter} {t a : List TRoute} {l : List TRedist} {p a2 : Int} (hpe : (([3, 4, 5, 5] : List Int).getD (bitD .and .i64 a2 3).toNat default) = p) (ha : a = t.flatMap (redOf r l p)) (ht : t.length ≤ 30) (hal : a.length ≤ 30) (hl : l.length ≤ 30)
    (hasc : ∀ i, i + 1 < t.length → plt (t.getD i default).fPrefix (t.getD (i + 1) default).fPrefix) (hval : ∀ i, i < t.length → S.ref4_Valid (t.getD i default).fPrefix = true)
    (hoff : ∀ x y, y ∈ redOf r l p x → Off p x y ∧ x.fProto ≠ p ∧ l.any (fun d => d.fFrom == x.fProto) = true) :
    ∀ (n i fr : Nat), i + n = a.length → fr ≤ t.length → a.drop i = (t.drop fr).flatMap (redOf r l p) → Iter (M.law19_RibOffers_l1 t a2 l a) ((fr : Int), (i : Int)) (.inl ()) := by
  intro n
  induction n with
  | zero =>
    intro i fr h _ _
    refine .out ?_
    unfold M.law19_RibOffers_l1
    rw [show decide ((i : Int) < (a.length : Int)) = false from decide_eq_false (by omega)]
    rfl
  | succ n ih =>
    intro i fr h hfr hd
    have hi : i < a.length := by omega
    rw [gdrop hi] at hd
    obtain ⟨j, h1, h2, h3, h4⟩ := next_red (t.length - fr) fr (by omega) hd.symm
    obtain ⟨o1, o2, o3⟩ := hoff _ _ h3
    refine .next ?_ (ih (i + 1) (j + 1) (by omega) (by omega) h4)
    have k2 := o_l2 (t := t) (a := a) (fr := fr) (i := i) (j0 := j) ht hi h2 o1.pfx.symm (fun m hm => by rw [o1.pfx]; exact asc_ne hasc hm h2) (j - fr) fr (by omega)
    have k3 := o_l3 (t := t) (l := l) (j0 := j) hl l.length 0 false (Nat.zero_add _)
    rw [List.drop_zero, o3, Bool.false_or] at k3
    have vd : (gc (p != 3) (M.ref15_Valid (a.getD i default))) = some (p != 3) := by
      by_cases hp : p = 3
      · subst hp; rfl
      · rw [show (p != 3) = true by simpa using hp]
        show M.ref15_Valid _ = _
        rw [s_ref15_Valid _ ⟨by rw [o1.nil.1]; simp, by rw [o1.nil.2]; simp⟩, o1.valid hp (hval j h2)]
    unfold M.law19_RibOffers_l1
    simp only [Int.toNat_natCast]
    rw [show decide ((i : Int) < (a.length : Int)) = true from decide_eq_true (by omega), cond_true, loopM_of k2, Option.bind_some]
    rw [show ((j : Int) == (t.length : Int)) = false by simp; omega, cond_false, gdT (by simp; omega)]
    rw [show ((0 : Int)) = ((0 : Nat) : Int) from rfl, loopM_of k3, Option.bind_some, hpe]
    simp only [Int.toNat_natCast, o1.proto]
    rw [show decide ((a.getD i default).fTag < ((0 : Nat) : Int)) = false from decide_eq_false (by have := o1.tag; omega), show decide ((a.getD i default).fTag > 65535) = false from decide_eq_false (by have := o1.tag; omega), show decide ((a.getD i default).fMetric < ((0 : Nat) : Int)) = false from decide_eq_false (by have := o1.met; omega), show decide ((a.getD i default).fMetric > 16777215) = false from decide_eq_false (by have := o1.met; omega), show ((t.getD j default).fProto == p) = false by simpa using o2, bne_self_eq_false]
    rw [gdT (by simp [guardB])]
    simp only [Bool.not_true, Bool.or_false, cond_false, vd, Option.bind_some]
    rw [gdT (by cases (p != 3) <;> simp [guardB]), up1 (by omega), up1 (by omega)]
    cases (p != 3) <;> rfl
theorem valid_pfx {x : TRoute} (h : S.ref15_Valid x = true) : S.ref4_Valid x.fPrefix = true := by
  unfold S.ref15_Valid at h
  simp only [letS] at h
  cases hv : S.ref4_Valid x.fPrefix with
  | true => rfl
  | false => rw [hv] at h; simp at h
theorem redAll_len {r : TRouter} {l : List TRedist} {p : Int} : ∀ t : List TRoute, (t.flatMap (redOf r l p)).length ≤ t.length
  | [] => by simp
  | x :: t => by
    rw [List.flatMap_cons, List.length_append, List.length_cons]
    have h1 := redAll_len (r := r) (l := l) (p := p) t
    have h2 := redOf_len r l p x
    omega
theorem redOk_in {r : TRouter} {l : List TRedist} {a b c : Int} (h : RedOk r l a b c) (hb : 0 ≤ b) (hc : c ≤ 16777215) : ∀ d ∈ l, d.fFrom ≠ a ∧ 0 ≤ d.fMetric ∧ d.fMetric ≤ 16777215 ∧ 0 ≤ d.fTag ∧ d.fTag ≤ 65535 := by
  rcases h with rfl | h
  · intro d hd; cases hd
  · intro d hd
    have := red_in h hd
    exact ⟨this.1, by omega, by omega, by omega, by omega⟩
theorem pick3 {k : Int} (h : 0 ≤ k ∧ k < 4) : (([3, 4, 5, 5] : List Int).getD k.toNat default) = 3 ∨ (([3, 4, 5, 5] : List Int).getD k.toNat default) = 4 ∨ (([3, 4, 5, 5] : List Int).getD k.toNat default) = 5 := by
  have : k.toNat = 0 ∨ k.toNat = 1 ∨ k.toNat = 2 ∨ k.toNat = 3 := by omega
  rcases this with h | h | h | h <;> rw [h] <;> simp
theorem plain_RibOffers (a0 : TRouter) (a1 : List TRoute) (a2 : Int) (w0 : W_TRouter a0) (w1 : a1.length ≤ maxLen ∧ a1.length * 136 ≤ reachBytes ∧ ∀ y ∈ a1, W_TRoute y) (_w2 : (Lit.int .i64 a2).wf = true) : M.law19_RibOffers a0 a1 a2 = some true := by
  have hr := LofW_TRouter w0
  have hL : LL L_TRoute a1 := ⟨w1.1, fun x hx => LofW_TRoute (w1.2.2 x hx)⟩
  unfold M.law19_RibOffers
  rw [s_law5_Small a0 hr, Option.bind_some]
  cases hs : S.law5_Small a0 with
  | false => simp [gc]
  | true =>
    simp only [gc, Bool.not_true, Bool.not_false, cond_true]
    rw [s_ref8_CheckRouter a0 hr, Option.bind_some]
    cases hc : (S.ref8_CheckRouter a0 != 0) with
    | true => simp
    | false =>
      simp only [Bool.false_or]
      cases ht : decide ((a1.length : Int) > 30) with
      | true => simp
      | false =>
        simp only [Bool.not_false, cond_true, Bool.false_or]
        rw [s_ref15_Table a1 0 hL, Option.bind_some]
        cases htab : S.ref15_Table a1 0 with
        | false => rfl
        | true =>
          simp only [Bool.not_true, cond_false]
          rw [decide_eq_false_iff_not] at ht
          have hc0 : S.ref8_CheckRouter a0 = 0 := by simpa using hc
          obtain ⟨hrm, hls, hdv, hpv⟩ := check_parts hc0
          have sm := small_of hs
          have hn := and3 a2
          obtain ⟨tv, ta⟩ := table_ok htab (by omega)
          rw [gdT (by simp; omega)]
          have hp3 := pick3 hn
          generalize hp : (([3, 4, 5, 5] : List Int).getD (bitD .and .i64 a2 3).toNat default) = p at hp3
          rw [s_law19_into a0 p hr, Option.bind_some]
          have hl : (S.law19_into a0 p).length ≤ 8 ∧ LL L_TRedist (S.law19_into a0 p) ∧ (∀ d ∈ S.law19_into a0 p, d.fFrom ≠ p ∧ 0 ≤ d.fMetric ∧ d.fMetric ≤ 16777215 ∧ 0 ≤ d.fTag ∧ d.fTag ≤ 65535) ∧ (S.law19_into a0 p ≠ [] → p = 4 → 1 ≤ a0.fDV.fAdmin ∧ a0.fDV.fAdmin ≤ 255) ∧ (S.law19_into a0 p ≠ [] → p = 5 → 1 ≤ a0.fPV.fInternal ∧ a0.fPV.fInternal ≤ 255) := by
            rcases hp3 with rfl | rfl | rfl
            · exact ⟨sm.lsr, hr.fLS.fRedist, redOk_in (ls_red hls) (by decide) (by decide), fun _ h => by omega, fun _ h => by omega⟩
            · exact ⟨sm.dvr, hr.fDV.fRedist, redOk_in (dv_red hdv) (by decide) (by decide), fun h _ => dv_admin hdv h, fun _ h => by omega⟩
            · have hb : a0.fPV.fNeighbors.length ≤ 100 ∧ a0.fPV.fNetworks.length ≤ 100 ∧ a0.fPV.fAggregates.length ≤ 100 ∧ a0.fPV.fConditions.length ≤ 100 ∧ a0.fPV.fRedist.length ≤ 100 := ⟨by have := sm.nb; omega, by have := sm.nw; omega, by have := sm.ag; omega, by have := sm.cd; omega, by have := sm.pvr; omega⟩
              exact ⟨sm.pvr, hr.fPV.fRedist, redOk_in (pv_red hb hpv) (by decide) (by decide), fun _ h => by omega, fun h _ => pv_admin hb hpv h⟩
          generalize S.law19_into a0 p = l at *
          obtain ⟨l1, l2, l3, l4, l5⟩ := hl
          rw [p_eq hr (by omega) l2.2 (by omega) hL.2, Option.bind_some]
          have hal := redAll_len (r := a0) (l := l) (p := p) a1
          have := o_l1 (r := a0) (t := a1) (l := l) (p := p) (a2 := a2) hp rfl (by omega) (by omega) (by omega) ta (fun i hi => valid_pfx (tv i hi)) (fun x y h => red_off hp3 hrm l3 l4 l5 h) _ 0 0 (Nat.zero_add _) (Nat.zero_le _) (by simp)
          rw [show ((0 : Int), (0 : Int)) = (((0 : Nat) : Int), ((0 : Nat) : Int)) from rfl, loopM_of this, Option.bind_some]
          simp only [Sum.elim_inl]
          rw [sane_some]
          rfl
end Nv
