/- Part of the proof of TopoDomains: the library of walks. No condition. -/
import Derived.Test.YtaienbkgekjdnaaGreatNvLibC
import Derived.Test.YtaienbkgekjdnaaGreatNvLibB
import Derived.KernelRfl
namespace Nv
open Go Go.RowKit
end Nv
namespace Nv
open Go Go.RowKit
end Nv
namespace Nv
open Go Go.RowKit
theorem seq_soundR {P : Program} {F : Fr} [GF P F] {nt : Nat} {ops : Array Oper} (hnd : dstsB ops = true) {Q : Exit → Act → World → Prop} {rest : List Nat} : ∀ (l : List Oper) (k : Nat) (s s' : RS) (bs : List Bool) (rq : List Req), (∀ (j : Nat), l[j]? = ops[k + j]? ∨ l.length ≤ j) →
    runS P nt ops k l s = some (s', bs, rq) → (∀ b ∈ bs, b = true) → (∀ q ∈ rq, q.ok P) → ∀ (a : Act) (c : Ctx), RInv F nt ops k s a c →
    (∀ a' c', RInv F nt ops (k + l.length) s' a' c' → wpOps P ops Q rest a' c'.w) → wpOps P ops Q (List.range' k l.length ++ rest) a c.w
  | [], k, s, s', bs, rq, _, h, _, _, a, c, hR, hQ => by
    simp only [runS, Option.some.injEq, Prod.mk.injEq] at h
    obtain ⟨rfl, rfl, rfl⟩ := h
    exact hQ a c hR
  | o :: l, k, s, s', bs, rq, hl, h, hb, hq, a, c, hR, hQ => by
    have ho : ops[k]? = some o := by
      rcases hl 0 with h1 | h1
      · simpa using h1.symm
      · simp at h1
    simp only [runS] at h
    split at h <;> try cases h
    rename_i s1 b1 r1 hstep
    split at h <;> try cases h
    rename_i s2 b2 r2 hrun
    simp only [List.length_cons, List.range'_succ, List.cons_append, wpOps, ho]
    have next : ∀ a' c', RInv F nt ops (k + 1) s1 a' c' → wpOps P ops Q (List.range' (k + 1) l.length ++ rest) a' c'.w := fun a' c' hR' =>
      seq_soundR hnd l (k + 1) s1 s' b2 r2 (fun j => by
        rcases hl (j + 1) with h1 | h1
        · left; simpa [Nat.add_assoc, Nat.add_comm 1 j] using h1
        · right; simp at h1; exact h1) hrun (fun b hb' => hb b (List.mem_append_right _ hb')) (fun q hq' => hq q (List.mem_append_right _ hq')) a' c' hR'
        (fun a'' c'' h'' => hQ a'' c'' (by rw [List.length_cons, show k + (l.length + 1) = k + 1 + l.length by omega]; exact h''))
    have hb1 : ∀ b ∈ b1, b = true := fun b hb' => hb b (List.mem_append_left _ hb')
    have hq1 : ∀ q ∈ r1, q.ok P := fun q hq' => hq q (List.mem_append_left _ hq')
    have hidx0 : ∀ t j w d, find s.env t = .opt j w d → j < k := hR.idx
    unfold stepS at hstep
    split at hstep <;> try cases hstep
    rename_i g hg
    have hgf : GuardFacts ops a c s.env (gch ops 20 o.guard) := fun p _ t _ => hR.env t
    split at hstep
    · rename_i d bs0 rq0 orc0 j want hop hgd
      cases hlt : Nat.blt j k with
      | false => simp [hlt] at hstep
      | true =>
        simp only [hlt, cond_true] at hstep
        obtain ⟨e, he, heq⟩ := Option.map_eq_some_iff.1 hstep
        simp only [Prod.mk.injEq] at heq
        obtain ⟨rfl, rfl, rfl⟩ := heq
        have hjk := blt_true hlt
        have hyj : ∀ v, yielded ops (a.put o.dst v).tmps j = yielded ops a.tmps j := fun v => yielded_put fun t ht e => by
          have := dsts_spec hnd (show (ops[k]?).bind (·.dst) = some t by rw [ho]; exact ht) e
          omega
        have hwant : Region.wanted o (yielded ops a.tmps) = (yielded ops a.tmps j == some want) := by simp [Region.wanted, hgd]
        cases hw : Region.wanted o (yielded ops a.tmps) with
        | true =>
          simp only [if_true]
          refine .inl (op_sound hR.inv (fun x _ => eval_gv hR x) hgf hg hw (by rw [hR.H]; exact hop) hb1 hq1 fun v c' hI' haf => ?_)
          obtain ⟨hgo, _, htv⟩ := haf
          refine next _ c' (rinv_put hnd hR ho hI' (fun t v hv => hgo.gv hv) hidx0 he (by rw [hgo.H]; exact hR.H) (.inl ⟨?_, htv⟩) (fun j' w' d' e => by cases e; exact hjk))
          rw [hyj]
          rw [hw] at hwant
          simpa using hwant.symm
        | false =>
          simp only [Bool.false_eq_true, if_false]
          refine next _ c (rinv_put hnd hR ho hR.inv (fun t v hv => hv) hidx0 he hR.H (.inr ⟨?_, rfl⟩) (fun j' w' d' e => by cases e; exact hjk))
          rw [hyj]
          rw [hw] at hwant
          simpa using hwant.symm
    · rename_i d bs0 rq0 orc0 hop hgd
      obtain ⟨e, he, heq⟩ := Option.map_eq_some_iff.1 hstep
      simp only [Prod.mk.injEq] at heq
      obtain ⟨rfl, rfl, rfl⟩ := heq
      have hw : Region.wanted o (yielded ops a.tmps) = true := by simp [Region.wanted, hgd]
      simp only [hw, if_true]
      refine .inl (op_sound hR.inv (fun x _ => eval_gv hR x) hgf hg hw (by rw [hR.H]; exact hop) hb1 hq1 fun v c' hI' haf => ?_)
      obtain ⟨hgo, _, htv⟩ := haf
      refine next _ c' (rinv_put hnd hR ho hI' (fun t v hv => hgo.gv hv) hidx0 he (by rw [hgo.H]; exact hR.H) (gv_of_tv htv) (fun j' w' d' e => ?_))
      subst e
      simp only [TV, AV] at htv
      exact absurd htv cv_not_opt
    · rename_i wd n f bs0 rq0 orc0 hop hgd
      obtain ⟨e, he, heq⟩ := Option.map_eq_some_iff.1 hstep
      simp only [Prod.mk.injEq] at heq
      obtain ⟨rfl, rfl, rfl⟩ := heq
      have hw : Region.wanted o (yielded ops a.tmps) = true := by simp [Region.wanted, hgd]
      simp only [hw, if_true]
      refine .inl (op_sound hR.inv (fun x _ => eval_gv hR x) hgf hg hw (by rw [hR.H]; exact hop) hb1 hq1 fun v c' hI' haf => ?_)
      obtain ⟨hH', htr, htv⟩ := haf
      refine next _ c' (rinv_put hnd hR ho hI' (fun t v hv => gv_trans htr hv) hidx0 he (by rw [hH', hR.H]) (gv_of_tv (by rw [← hR.H]; exact htv)) (fun j' w' d' e => by cases e))
    · rename_i hop hgd
      split at hstep
      · rename_i d bs0 hap
        obtain ⟨e, he, heq⟩ := Option.map_eq_some_iff.1 hstep
        simp only [Prod.mk.injEq] at heq
        obtain ⟨rfl, rfl, rfl⟩ := heq
        have hw : Region.wanted o (yielded ops a.tmps) = true := by simp [Region.wanted, hgd]
        simp only [hw, if_true]
        have hρ : ∀ x ∈ o.op.operands.toList, TV c (a.eval x) (unwrap [] (evD s.env x)) := fun x _ => unwrap_ok (a := a) (ops := ops) (by simp) (eval_gv hR x)
        obtain ⟨v, c', hrun', hI', hgo, _, htv⟩ := appPD_ok (ρc := a.eval) hR.inv hρ (by rw [hR.H]; exact hap) hb1
        refine .inl ?_
        unfold Oper.wp
        rw [hrun']
        refine next _ c' (rinv_put hnd hR ho hI' (fun t v hv => hgo.gv hv) hidx0 he (by rw [hgo.H]; exact hR.H) (gv_of_tv htv) (fun j' w' d' e => ?_))
        subst e
        simp only [TV, AV] at htv
        exact absurd htv cv_not_opt
      split at hstep
      · rename_i H' hcl
        obtain ⟨e, he, heq⟩ := Option.map_eq_some_iff.1 hstep
        simp only [Prod.mk.injEq] at heq
        obtain ⟨rfl, rfl, rfl⟩ := heq
        have hw : Region.wanted o (yielded ops a.tmps) = true := by simp [Region.wanted, hgd]
        simp only [hw, if_true]
        have hρ : ∀ x ∈ o.op.operands.toList, TV c (a.eval x) (unwrap [] (evD s.env x)) := fun x _ => unwrap_ok (a := a) (ops := ops) (by simp) (eval_gv hR x)
        obtain ⟨v, c', hrun', hI', hH', htr, htv⟩ := clrD_ok (ρc := a.eval) hR.inv hρ (by rw [hR.H]; exact hcl)
        have hfin0 := next (a.put o.dst v) c' (rinv_put hnd hR ho hI' (fun t v hv => gv_trans htr hv) hidx0 he hH' (gv_of_tv htv) (fun j' w' d' e => by cases e))
        refine .inl ?_
        unfold Oper.wp
        rcases hrun' with h1 | ⟨h1, rfl⟩
        · rw [h1]; exact hfin0
        · rw [h1]; exact hfin0
      split at hstep
      case h_2 =>
        split at hstep <;> try cases hstep
        rename_i d H' rq0 orc0 hlend
        obtain ⟨e, he, heq⟩ := Option.map_eq_some_iff.1 hstep
        simp only [Prod.mk.injEq] at heq
        obtain ⟨rfl, rfl, rfl⟩ := heq
        have hw : Region.wanted o (yielded ops a.tmps) = true := by simp [Region.wanted, hgd]
        simp only [hw, if_true]
        have hρ : ∀ x ∈ o.op.operands.toList, TV c (a.eval x) (unwrap [] (evD s.env x)) := fun x _ => unwrap_ok (a := a) (ops := ops) (by simp) (eval_gv hR x)
        refine .inl (lend_ok hR.inv hρ (by rw [hR.H]; exact hlend) hq1 fun v c' hI' hH' htr htv => ?_)
        refine next _ c' (rinv_put hnd hR ho hI' (fun t v hv => gv_trans htr hv) hidx0 he hH' (gv_of_tv htv) (fun j' w' d' e => ?_))
        subst e
        simp only [TV, AV] at htv
        exact absurd htv cv_not_opt
      rename_i d H' pid bs0 hheap
      obtain ⟨e, he, heq⟩ := Option.map_eq_some_iff.1 hstep
      simp only [Prod.mk.injEq] at heq
      obtain ⟨rfl, rfl, rfl⟩ := heq
      have hw : Region.wanted o (yielded ops a.tmps) = true := by simp [Region.wanted, hgd]
      simp only [hw, if_true]
      have hρ : ∀ x ∈ o.op.operands.toList, TV c (a.eval x) (unwrap [] (evD s.env x)) := fun x _ => unwrap_ok (a := a) (ops := ops) (by simp) (eval_gv hR x)
      obtain ⟨v, c', hrun', hI', hH', htr, htv⟩ := heapF_ok (ρc := a.eval) hR.inv hρ (by rw [hR.H]; exact hheap) hb1
      have hfin : wpOps P ops Q (List.range' (k + 1) l.length ++ rest) (a.put o.dst v) c'.w := by
        refine next _ c' (rinv_put hnd hR ho hI' (fun t v hv => ?_) (fun t j w d hf => ?_) he hH' (gv_of_tv htv) (fun j' w' d' e => ?_))
        · rw [find_map]
          exact gv_purge htr hv
        · rw [find_map] at hf
          exact hidx0 t j w d (purge_not_opt hf).2
        · subst e
          simp only [TV, AV] at htv
          exact absurd htv cv_not_opt
      refine .inl ?_
      unfold Oper.wp
      rcases hrun' with h1 | ⟨h1, rfl⟩
      · rw [h1]; exact hfin
      · rw [h1]; exact hfin
    · cases hstep
def regTo (P : Program) (ops : Array Oper) (k : Nat) (orc : List Res) (keep : List Nat) (hn : Nat) (s : St) : Option (St × List Bool × List Req) :=
  bif dstsB ops && Nat.ble k ops.size then
    (match runS P s.nt ops 0 (ops.toList.take k) ⟨s.env, s.H, orc⟩ with
    | some (r, bs, rq) => (cutS hn ⟨s.nt, fin r.env keep, r.H⟩).map fun s' => (s', bs, rq)
    | none => none) else none
def regFrom (P : Program) (ops : Array Oper) (k : Nat) (orc : List Res) (keep : List Nat) (hn : Nat) (s : St) : Option (St × List Bool × List Req) :=
  match runS P s.nt ops k (ops.toList.drop k) ⟨s.env, s.H, orc⟩ with
  | some (r, bs, rq) => (cutS hn ⟨s.nt, fin r.env keep, r.H⟩).map fun s' => (s', bs, rq)
  | none => none
theorem rinv_of_rel {F : Fr} {nt : Nat} {ops : Array Oper} {k : Nat} {s : St} {a : Act} {w : World} {orc : List Res} (h : Rel F s a w) (hn : s.nt = nt) : ∃ c : Ctx, c.w = w ∧ RInv F nt ops k ⟨s.env, s.H, orc⟩ a c := by
  obtain ⟨c, rfl, hH, hI, henv, hsz, hd⟩ := h
  refine ⟨c, rfl, hH, hI, fun t => gv_of_tv (henv t), hsz.trans hn, hd, fun t j w d hf => ?_⟩
  have := henv t
  have hf : find s.env t = .opt j w d := hf
  rw [hf] at this
  simp only [TV, AV] at this
  exact absurd this cv_not_opt
end Nv
namespace Nv
open Go Go.RowKit
theorem ops_from {P : Program} {F : Fr} [GF P F] {ops : Array Oper} {k : Nat} (hnd : dstsB ops = true) {s s3 : St} {orc : List Res} {keep : List Nat} {hn : Nat} {bs : List Bool} {rq : List Req} (h : regFrom P ops k orc keep hn s = some (s3, bs, rq)) (hb : ∀ b ∈ bs, b = true) (hq : ∀ q ∈ rq, q.ok P)
    {Q : Exit → Act → World → Prop} (hQ : ∀ a w, Rel F s3 a w → Q .normal a w) {a : Act} {w : World} (hR : Rel F s a w) : wpOps P ops Q (List.range' k (ops.size - k)) a w := by
  unfold regFrom at h
  split at h <;> try cases h
  rename_i r bs' rq' hrun
  obtain ⟨q3, hcut, heq⟩ := Option.map_eq_some_iff.1 h
  simp only [Prod.mk.injEq] at heq
  obtain ⟨rfl, rfl, rfl⟩ := heq
  obtain ⟨c, rfl, h0⟩ := rinv_of_rel (ops := ops) (k := k) (orc := orc) hR rfl
  have hlen : (ops.toList.drop k).length = ops.size - k := by simp
  have := seq_soundR hnd (Q := Q) (rest := []) (ops.toList.drop k) k ⟨s.env, s.H, orc⟩ r bs' rq' (fun j => .inl (by rw [List.getElem?_drop]; simp)) hrun hb hq a c h0 (fun a' c' hR' => hQ _ _ (le_cut hcut F a' c'.w (rinv_fin hR' keep)))
  rw [hlen, List.append_nil] at this
  exact this
theorem ops_to {P : Program} {F : Fr} [GF P F] {ops : Array Oper} {k : Nat} {s s1 : St} {orc : List Res} {keep : List Nat} {hn : Nat} {bs : List Bool} {rq : List Req} (h : regTo P ops k orc keep hn s = some (s1, bs, rq)) (hb : ∀ b ∈ bs, b = true) (hq : ∀ q ∈ rq, q.ok P)
    {Q : Exit → Act → World → Prop} (hQ : ∀ a w, Rel F s1 a w → wpOps P ops Q (List.range' k (ops.size - k)) a w) {a : Act} {w : World} (hR : Rel F s a w) : dstsB ops = true ∧ wpOps P ops Q (List.range ops.size) a w := by
  unfold regTo at h
  cases hc : (dstsB ops && Nat.ble k ops.size) with
  | false => rw [hc] at h; cases h
  | true =>
    rw [hc] at h
    simp only [cond_true] at h
    simp only [Bool.and_eq_true] at hc
    have hkl := Nat.le_of_ble_eq_true hc.2
    split at h <;> try cases h
    rename_i r bs rq hrun
    obtain ⟨q1, hcut, heq⟩ := Option.map_eq_some_iff.1 h
    simp only [Prod.mk.injEq] at heq
    obtain ⟨rfl, rfl, rfl⟩ := heq
    obtain ⟨c, rfl, h0⟩ := rinv_of_rel (ops := ops) (k := 0) (orc := orc) hR rfl
    have hlen : (ops.toList.take k).length = k := by simp; omega
    have := seq_soundR hc.1 (Q := Q) (rest := List.range' k (ops.size - k)) (ops.toList.take k) 0 ⟨s.env, s.H, orc⟩ r bs rq (fun j => by
      rcases Nat.lt_or_ge j k with h | h
      · left; rw [List.getElem?_take_of_lt h]; simp
      · right; rw [hlen]; exact h) hrun hb hq a c h0 (fun a' c' hR' => hQ _ _ (le_cut hcut F a' c'.w (rinv_fin hR' keep)))
    rw [hlen] at this
    refine ⟨hc.1, ?_⟩
    have e : List.range ops.size = List.range' 0 k ++ List.range' k (ops.size - k) := by
      rw [List.range_eq_range', show List.range' k (ops.size - k) = List.range' (0 + 1 * k) (ops.size - k) by simp, List.range'_append, show k + (ops.size - k) = ops.size by omega]
    rw [e]
    exact this
theorem rgxe {P : Program} {Q : Exit → St → Prop} {s : St} {id : Nat} {ops : Array Oper} (k : Nat) (orc1 : List Res) (keep1 : List Nat) (hn1 : Nat) (s1 : St) (bs1 : List Bool) (rq1 : List Req) (hb1 : ∀ b ∈ bs1, b = true) (hq1 : Reqs P rq1)
    {α : Type} (S2 : α → St) (hle : LeE s1 S2) (orcB : List Res) (keepB : List Nat) (hnB : Nat) (s3 : α → St) (bsB : α → List Bool) (rqB : α → List Req) (hbB : ∀ x, ∀ b ∈ bsB x, b = true) (hqB : ∀ x, Reqs P (rqB x)) (kk : ∀ x, Q .normal (s3 x))
    (h1 : regTo P ops k orc1 keep1 hn1 s = some (s1, bs1, rq1) := by kernel_rfl) (hB : ∀ x, regFrom P ops k orcB keepB hnB (S2 x) = some (s3 x, bsB x, rqB x) := by intro _; kernel_rfl) : AWP P (.region id ops false) Q s := by
  intro F a w hG hR
  refine wp_region ?_
  have hnd : dstsB ops = true := by
    unfold regTo at h1
    cases hc : (dstsB ops && Nat.ble k ops.size) with
    | false => rw [hc] at h1; cases h1
    | true => simp only [Bool.and_eq_true] at hc; exact hc.1
  refine (ops_to h1 hb1 hq1.all (fun a w hR1 => ?_) hR).2
  obtain ⟨x, hR2⟩ := hle F a w hR1
  exact ops_from hnd (hB x) (hbB x) (hqB x).all (fun a w h => ⟨_, kk x, h⟩) hR2
theorem le_cont {nt : Nat} {e : List (Nat × D)} {H : List Ob} (id wd n : Nat) (f f' : Nat → List D) (ho : H[id]? = some (.arr wd n f)) (hl : ∀ i, i < n → (f' i).length = (f i).length)
    (hp : ∀ i, i < n → ∀ (j : Nat) (d' : D), (f' i)[j]? = some d' → ∃ d, (f i)[j]? = some d ∧ ∀ I w v, PV I w v d → PV I w v d') : Le ⟨nt, e, H⟩ ⟨nt, e, H.set id (.arr wd n f')⟩ := by
  rintro F a w ⟨c, rfl, hH, hI, henv, hsz, hd⟩
  obtain rfl : c.H = H := hH
  have hs : ∀ wd' n' f0, Ob.arr wd n f = .arr wd' n' f0 → ∃ f1, Ob.arr wd n f' = .arr wd' n' f1 := fun wd' n' f0 h => by cases h; exact ⟨f', rfl⟩
  refine ⟨c.seen id (.arr wd n f'), rfl, rfl, seen_inv hI ho (by simp) hs (fun h => ⟨fun i hi => (hl i hi).trans (h.1 i hi), h.2.imp (fun x => x) ?_⟩) (hI.fam.mono (fun i o j b h1 h2 => fblk_set (fun _ => rfl) h1 h2) (Nat.le_refl _) (fun b _ h => .inl h) fun i b h => .inl ⟨i, h⟩), fun t => seen_tv ho hs (henv t), hsz, hd⟩
  rintro ⟨b, cs, T, h1, h2, h3, h4⟩
  refine ⟨b, cs, T, h1, h2, h3, fun i hi j d' hd' => ?_⟩
  obtain ⟨d, h5, h6⟩ := hp i hi j d' hd'
  obtain ⟨v, h7, h8, h9⟩ := h4 i hi j d h5
  exact ⟨v, h7, h8, h6 _ _ _ h9⟩
theorem le_fam0 {nt : Nat} {e : List (Nat × D)} {H : List Ob} (n wd : Nat) (g : Nat → List D) : Le ⟨nt, e, H⟩ ⟨nt, e, H ++ [.fam 0 (fun _ => false) n wd (fun _ => nilV) (fun _ => (0, g))]⟩ := by
  rintro F a w ⟨c, rfl, hH, hI, henv, hsz, hd⟩
  obtain rfl : c.H = H := hH
  have hfb : ∀ j, fblk (.fam 0 (fun _ => false) n wd (fun _ => nilV) (fun _ => (0, g))) j = none := fun j => by simp only [fblk]; split <;> rfl
  refine ⟨c.made0 (.fam 0 (fun _ => false) n wd (fun _ => nilV) (fun _ => (0, g))), rfl, rfl, ⟨hI.below, hI.imm, hI.loc, hI.inj, fun id o' h => ?_, fun id hid => hI.dom id (by simp [Ctx.made0] at hid; omega), hI.lent, fun hl => made0_H _ _ (hI.mark hl), hI.fam.mono (fun id o' j b h1 h2 => fblk_get hfb h1 h2) (Nat.le_refl _) (fun b _ h => .inl h) fun i b h => .inl ⟨i, h⟩⟩, fun t => made0_tv _ (henv t), hsz, hd⟩
  by_cases hid : id = c.H.length
  · subst hid
    have : o' = .fam 0 (fun _ => false) n wd (fun _ => nilV) (fun _ => (0, g)) := by simp [Ctx.made0] at h; exact h.symm
    subst this
    exact ⟨⟨hI.dom _ (Nat.le_refl _), fun _ h => by cases h⟩, fun j _ => famAt_nil _ _ _⟩
  · have hH : c.H[id]? = some o' := by
      have hlt := (List.getElem?_eq_some_iff.1 h).1
      simp only [Ctx.made0, List.length_append, List.length_singleton] at hlt
      simp only [Ctx.made0] at h
      rw [List.getElem?_append_left (by omega)] at h
      exact h
    have hv := hI.obj id o' hH
    cases o' with
    | fam foc is n wd vs ls => exact ov_fam hv (fun _ _ h => h) fun _ _ _ => rfl
    | box cells => obtain ⟨b, cs', T', hb, h1, h2⟩ := hv; exact ⟨b, cs', T', hb, h1, h2.mono fun _ _ => made0_cv _⟩
    | arr wd n f => exact hv
    | mp _ _ => exact hv
    | gone => exact hv
theorem le_refam {nt : Nat} {e : List (Nat × D)} {H : List Ob} {idf foc n wd : Nat} {is : Value → Bool} {vs : Nat → Value} {ls : Nat → Nat × (Nat → List D)} (ho : H[idf]? = some (.fam foc is n wd vs ls)) (n' : Nat) (vs' : Nat → Value) (ls' : Nat → Nat × (Nat → List D)) (ρ : Nat → Nat)
    (h : ∀ j, j < n' → ((∃ ad, vs' j = .slice ad 0 0) ∧ (ls' j).1 = 0) ∨ (ρ j < n ∧ vs' j = vs (ρ j) ∧ (ls' j).1 = (ls (ρ j)).1 ∧ ∀ i, i < (ls' j).1 → (ls' j).2 i = (ls (ρ j)).2 i))
    (hinj : ∀ i j, i < n' → j < n' → blkOf (vs' i) ≠ none → blkOf (vs' j) ≠ none → ρ i = ρ j → i = j) : Le ⟨nt, e, H⟩ ⟨nt, e, H.set idf (.fam 0 (fun _ => false) n' wd vs' ls')⟩ := by
  rintro F a w ⟨c, rfl, hH, hI, henv, hsz, hd⟩
  obtain rfl : c.H = H := hH
  have hidf := (List.getElem?_eq_some_iff.1 ho).1
  have hold : ∀ (i : Nat) (q : Ob) (jj b : Nat), (c.seen idf (.fam 0 (fun _ => false) n' wd vs' ls')).H[i]? = some q → fblk q jj = some b →
      (i = idf ∧ jj < n' ∧ blkOf (vs' jj) = some b ∧ fblk (.fam foc is n wd vs ls) (ρ jj) = some b) ∨ (i ≠ idf ∧ c.H[i]? = some q) := by
    intro i q jj b h2 h3
    by_cases e2 : i = idf
    · subst e2
      simp only [Ctx.seen] at h2
      rw [List.getElem?_set_self hidf] at h2
      cases h2
      simp only [fblk] at h3
      split at h3
      · rename_i hin
        refine .inl ⟨rfl, hin, h3, ?_⟩
        rcases h jj hin with ⟨⟨ad, h4⟩, _⟩ | ⟨h4, h5, _⟩
        · rw [h4] at h3; cases ad <;> simp [blkOf] at h3
        · simp only [fblk]; rw [if_pos h4, ← h5]; exact h3
      · cases h3
    · simp only [Ctx.seen] at h2
      rw [List.getElem?_set_ne (Ne.symm e2)] at h2
      exact .inr ⟨e2, h2⟩
  refine ⟨c.seen idf _, rfl, rfl, seen_inv hI ho (by simp) (by simp) (fun hv => ⟨⟨hv.1.1, fun _ h => by cases h⟩, fun j hj => ?_⟩) (fun i q jj b h2 h3 => ?_), fun t => seen_tv ho (by simp) (henv t), hsz, hd⟩
  · rcases h j hj with ⟨h1, h2⟩ | ⟨h1, h2, h3, h4⟩
    · obtain ⟨ad, h1⟩ := h1
      rw [h1, h2]; exact ⟨ad, 0, rfl, Nat.le_refl _, fun i hi => by omega, .inl rfl⟩
    · obtain ⟨ad, cap, e1, e2, e3, e4⟩ := hv.2 (ρ j) h1
      rw [h2, h3]
      refine ⟨ad, cap, e1, e2, fun i hi => by rw [h4 i (by omega)]; exact e3 i hi, e4.imp (fun x => x) ?_⟩
      rintro ⟨b, cs, T, g1, g2, g3, g4⟩
      exact ⟨b, cs, T, g1, g2, g3, fun i hi j' d hd => g4 i hi j' d (by rw [← h4 i (by omega)]; exact hd)⟩
  · rcases hold i q jj b h2 h3 with ⟨rfl, h4, h5, h6⟩ | ⟨h4, h5⟩
    · obtain ⟨h7, h8⟩ := hI.fam i _ (ρ jj) b ho h6
      refine ⟨h7, fun id' q' j' h9 h10 => ?_⟩
      rcases hold id' q' j' b h9 h10 with ⟨rfl, g1, g2, g3⟩ | ⟨g1, g2⟩
      · exact ⟨rfl, hinj j' jj g1 h4 (by rw [g2]; simp) (by rw [h5]; simp) (h8 _ _ _ ho g3).2⟩
      · exact absurd (h8 id' q' j' g2 h10).1 g1
    · obtain ⟨h7, h8⟩ := hI.fam i q jj b h5 h3
      refine ⟨h7, fun id' q' j' h9 h10 => ?_⟩
      rcases hold id' q' j' b h9 h10 with ⟨rfl, _, _, g3⟩ | ⟨_, g2⟩
      · exact absurd (h8 _ _ _ ho g3).1.symm h4
      · exact h8 id' q' j' g2 h10
theorem le_frF {nt : Nat} {e : List (Nat × D)} {H : List Ob} {idf foc n wd : Nat} {is : Value → Bool} {vs : Nat → Value} {ls : Nat → Nat × (Nat → List D)} (ho : H[idf]? = some (.fam foc is n wd vs ls)) (ida wda na : Nat) (f f' : Nat → List D) (ha : H[ida]? = some (.arr wda na f)) (hl : ∀ i, i < na → (f' i).length = (f i).length)
    (hp : ∀ i, i < na → ∀ (j : Nat) (d' : D), (f' i)[j]? = some d' → ∃ d, (f i)[j]? = some d ∧ (d' = d ∨ ∃ k, k < n ∧ d = .val (vs k) ∧ d' = .sl false wd (ls k).1 (ls k).2)) :
    Le ⟨nt, e, H⟩ ⟨nt, e, (H.set idf (.fam 0 (fun _ => false) 0 wd vs ls)).set ida (.arr wda na f')⟩ := by
  rintro F a w ⟨c, rfl, hH, hI, henv, hsz, hd⟩
  obtain rfl : c.H = H := hH
  have hidf := (List.getElem?_eq_some_iff.1 ho).1
  have hne : ida ≠ idf := fun e => by rw [e, ho] at ha; cases ha
  have hovf := hI.obj idf _ ho
  let I1 : Nat → Prop := fun b => ∃ j, fblk (.fam foc is n wd vs ls) j = some b
  have hfe : ∀ j, fblk (.fam 0 (fun _ => false) 0 wd vs ls) j = none := fun j => by simp [fblk]
  have hI1 : Inv F (c.seen idf (.fam 0 (fun _ => false) 0 wd vs ls)) := seen_inv hI ho (by simp) (by simp) (fun h => ⟨⟨h.1.1, fun _ h => by cases h⟩, fun j hj => by omega⟩) (hI.fam.mono (fun i o j b h1 h2 => fblk_set hfe h1 h2) (Nat.le_refl _) (fun b _ h => .inl h) fun i b h => .inl ⟨i, h⟩)
  have hI2 : Inv F ((c.seen idf (.fam 0 (fun _ => false) 0 wd vs ls)).more I1) := more_inv hI1 (fun b ⟨j, hj⟩ => by
    obtain ⟨⟨h1, h2, h3, h4⟩, _⟩ := hI.fam idf _ j b ho hj
    exact ⟨h2, h1, h4⟩) (fun b ⟨j, hj⟩ id o jj h1 h2 => by
    obtain ⟨_, h5⟩ := hI.fam idf _ j b ho hj
    obtain ⟨o1, h6, h7⟩ := fblk_set hfe h1 h2
    have := (h5 id o1 jj h6 h7).1
    subst this
    simp only [Ctx.seen] at h1
    rw [List.getElem?_set_self hidf] at h1
    cases h1
    rw [hfe] at h2; cases h2)
  have ha1 : ((c.seen idf (.fam 0 (fun _ => false) 0 wd vs ls)).more I1).H[ida]? = some (.arr wda na f) := by
    simp only [Ctx.more, Ctx.seen]
    rw [List.getElem?_set_ne (Ne.symm hne)]; exact ha
  have hs : ∀ wd' n' f0, Ob.arr wda na f = .arr wd' n' f0 → ∃ f1, Ob.arr wda na f' = .arr wd' n' f1 := fun wd' n' f0 h => by cases h; exact ⟨f', rfl⟩
  have hsl : ∀ k, k < n → PV (fun b => c.I b ∨ I1 b) c.w (vs k) (.sl false wd (ls k).1 (ls k).2) := fun k hk => by
    obtain ⟨ad, cap, hv, hle, hlen, hor⟩ := hovf.2 k hk
    rw [hv]
    rcases Nat.eq_zero_or_pos cap with h0 | h0
    · have hz : (ls k).1 = 0 := by omega
      rw [hz]
      exact .sl ad 0 cap wd false _ (fun _ _ => undef) (fun h => by cases h) (by omega) (fun h => by omega) (fun i hi => by omega) (fun i hi => by omega) (fun i hi => by omega)
    · rcases hor with hor | ⟨b, cs, T, rfl, h4, h5, h6⟩
      · omega
      · have hix : ∀ i, i < (ls k).1 → ∀ j, j < wd → ∃ v, cs[i * wd + j]? = some v ∧ v.oneCell' = true := fun i hi j hj => by
          have hj' : j < ((ls k).2 i).length := by rw [hlen i hi]; exact hj
          obtain ⟨v, e1, e2, _⟩ := h6 i hi j ((ls k).2 i)[j] (by simp [hj'])
          exact ⟨v, e1, e2⟩
        refine .sl _ (ls k).1 cap wd false _ (fun i j => cs.getD (i * wd + j) undef) (fun h => by cases h) hle (fun _ => ⟨b, 0, rfl, .inr ⟨k, by simp only [fblk]; rw [if_pos hk, hv]; simp only [blkOf]; rw [if_neg (by omega)]⟩, fun i hi j hj => ?_⟩) hlen (fun i hi j hj => ?_) (fun i hi j d hd => ?_)
        · obtain ⟨v, e1, _⟩ := hix i hi j hj
          simp [World.cell?, h4, e1]
        · obtain ⟨v, e1, e2⟩ := hix i hi j hj
          simp [e1, e2]
        · obtain ⟨v, e1, e2, e3⟩ := h6 i hi j d hd
          have : cs.getD (i * wd + j) undef = v := by simp [e1]
          rw [this]
          exact e3.mono (fun _ h => .inl h) fun _ _ => rfl
  refine ⟨((c.seen idf (.fam 0 (fun _ => false) 0 wd vs ls)).more I1).seen ida (.arr wda na f'), rfl, rfl, seen_inv hI2 ha1 (by simp) hs (fun h => ⟨fun i hi => (hl i hi).trans (h.1 i hi), h.2.imp (fun x => x) ?_⟩) (hI2.fam.mono (fun i o j b h1 h2 => fblk_set (fun _ => rfl) h1 h2) (Nat.le_refl _) (fun b _ h => .inl h) fun i b h => .inl ⟨i, h⟩), fun t => seen_tv ha1 hs (more_tv (seen_tv ho (by simp) (henv t))), hsz, hd⟩
  rintro ⟨b, cs, T, h1, h2, h3, h4⟩
  refine ⟨b, cs, T, h1, h2, h3, fun i hi j d' hd' => ?_⟩
  obtain ⟨d, h5, h6⟩ := hp i hi j d' hd'
  obtain ⟨v, h7, h8, h9⟩ := h4 i hi j d h5
  rcases h6 with rfl | ⟨k, h10, rfl, rfl⟩
  · exact ⟨v, h7, h8, h9⟩
  · cases h9
    exact ⟨_, h7, h8, hsl k h10⟩
end Nv
namespace Nv
open Go Go.RowKit
section
variable {α : Type} [Inhabited α]
end
theorem am {a : Bool} {l : List Bool} (h : a = true) (k : ∀ b ∈ l, b = true) : ∀ b ∈ a :: l, b = true := fun b hb => (List.mem_cons.1 hb).elim (fun e => e ▸ h) (k b)
theorem then_leE {P : Program} {y : Code} {Q : Exit → St → Prop} {α : Type} {s : St} {S : α → St} (h : LeE s S) (k : ∀ x, AWP P y Q (S x)) : Then P y Q .normal s := awp_leE h k
theorem roundE_n {α β γ : Type} {S : α → γ → St} {O : β → Exit → St → Prop} {x : α} {s : St} (g : γ) (h : Le s (S x g)) : RoundE S O (.inl x) .normal s := ⟨rfl, LeE.of g h⟩
theorem roundE_e {α β γ : Type} {S : α → γ → St} {O : β → Exit → St → Prop} {y : β} {s : St} {id : Nat} (h : O y (.exit id) s) : RoundE S O (.inr y) (.exit id) s := ⟨by simp, h⟩
def OutL {α γ : Type} (id : Nat) (S : α → γ → St) (x : α) (e : Exit) (s : St) : Prop := e = .exit id ∧ LeE s (S x)
end Nv
namespace Nv
open Go Go.RowKit
def exV : D → Value
  | .int k n => .int k n
  | .bool b => .bool b
  | .str s => .string s
  | _ => undef
def exB : D → Bool
  | .int _ _ | .bool _ | .str _ => true
  | _ => false
theorem exV_cv {c : Ctx} {d : D} (h : exB d = true) : CV c (exV d) d := by
  cases d <;> first | (simp [exB] at h; done) | skip
  · exact .int _ _
  · exact .bool _
  · exact .str _
theorem cv_exV {c : Ctx} {d : D} {v : Value} (h : exB d = true) (hv : CV c v d) : v = exV d := by
  cases d <;> first | (simp [exB] at h; done) | skip
  · cases hv; rfl
  · cases hv; rfl
  · cases hv; rfl
def exA (cs : List D) : Value := .agg (cs.map exV).toArray
theorem exA_vs (c : Ctx) {cs : List D} (h : cs.all exB = true) : Vs (CV c) (cs.map exV).toArray cs := by
  refine ⟨by simp, fun i v d h1 h2 => ?_⟩
  simp only [List.getElem?_toArray, List.getElem?_map, h2, Option.map_some, Option.some.injEq] at h1
  subst h1
  exact exV_cv (List.all_eq_true.1 h d (List.mem_of_getElem? h2))
theorem vs_exA {c : Ctx} {cs : List D} {vs : Array Value} (h : cs.all exB = true) (hv : Vs (CV c) vs cs) : Value.agg vs = exA cs := by
  unfold exA
  congr 1
  apply Array.ext
  · simpa using hv.1
  · intro i h1 h2
    have hi : i < cs.length := by rw [← hv.1]; exact h1
    have := cv_exV (List.all_eq_true.1 h cs[i] (by simp)) (hv.2 i vs[i] cs[i] (by simp [h1]) (by simp [hi]))
    rw [this]
    simp
section
variable {P : Program}
def findV (p : Value → Bool) : List (Value × Value) → Option Value
  | [] => none
  | e :: es => bif p e.1 then some e.2 else findV p es
theorem run_findAsking {w : World} {kt : TypeId} {k : Value} {p : Value → Bool} : ∀ (es : List MapEntry) (i : Nat), (∀ e ∈ es, (Op.equal kt k e.key).run P w = .ok (p e.key) w) →
    ∃ r, (Instr.findAsking kt k es i).run P w = .ok r w ∧ r.map (·.2) = findV p (es.map fun e => (e.key, e.val))
  | [], i, _ => ⟨none, rfl, rfl⟩
  | e :: es, i, h => by
    have h1 := h e List.mem_cons_self
    obtain ⟨r, h2, h3⟩ := run_findAsking es (i + 1) fun e he => h e (List.mem_cons_of_mem _ he)
    cases hp : p e.key with
    | true =>
      refine ⟨some (i, e.val), by simp [Instr.findAsking, h1, hp, Result.andThen], by simp [findV, hp]⟩
    | false =>
      refine ⟨r, by simp [Instr.findAsking, h1, hp, Result.andThen, h2], by simp [findV, hp, h3]⟩
theorem run_findKey {w : World} {kt : TypeId} {fs : Array Field} {k : Value} {p : Value → Bool} (hk : P.underlying kt = some (.struct fs)) (es : List MapEntry) (h : ∀ e ∈ es, (Op.equal kt k e.key).run P w = .ok (p e.key) w) :
    ∃ r, (Instr.findKey kt k es).run P w = .ok r w ∧ r.map (·.2) = findV p (es.map fun e => (e.key, e.val)) := by
  cases es with
  | nil => exact ⟨none, by simp [Instr.findKey, run_underlying hk, Instr.findNow, Result.andThen], rfl⟩
  | cons e es =>
    obtain ⟨r, h1, h2⟩ := run_findAsking (P := P) (e :: es) 0 h
    refine ⟨r, ?_, h2⟩
    have hn : Instr.findNow (.struct fs) k (e :: es) 0 = none := by simp [Instr.findNow, Instr.sameNow]
    simp [Instr.findKey, run_underlying hk, hn, Result.andThen, h1]
theorem run_look {w : World} {t kt et : TypeId} {fs : Array Field} {k z : Value} {p : Value → Bool} {b ck : Nat} {arr : Array MapEntry} (hu : P.underlying t = some (.map kt et)) (hk : P.underlying kt = some (.struct fs)) (hb : w.heap[b]? = some (.map arr ck))
    (hchk : ∀ em, (Instr.checkKey em 10000 kt k).run P w = .ok () w) (hz : (zeroValue et).run P w = .ok z w) (h : ∀ e ∈ arr.toList, (Op.equal kt k e.key).run P w = .ok (p e.key) w) :
    (Instr.lookup t (.map (some b)) k true).run P w = .ok (.tuple #[(findV p (arr.toList.map fun e => (e.key, e.val))).getD z, .bool (findV p (arr.toList.map fun e => (e.key, e.val))).isSome]) w := by
  obtain ⟨r, h1, h2⟩ := run_findKey hk arr.toList h
  rw [← h2]
  cases r with
  | none => simp [Instr.lookup, run_underlying hu, MapKept.run_getObj_map hb, hchk, h1, hz, Result.andThen]
  | some r => simp [Instr.lookup, run_underlying hu, MapKept.run_getObj_map hb, hchk, h1, Result.andThen]
theorem run_update {w : World} {t kt et : TypeId} {fs : Array Field} {k v : Value} {p : Value → Bool} {b ck : Nat} {arr : Array MapEntry} (hu : P.underlying t = some (.map kt et)) (hk : P.underlying kt = some (.struct fs)) (hb : w.heap[b]? = some (.map arr ck))
    (hchk : ∀ em, (Instr.checkKey em 10000 kt k).run P w = .ok () w) (h : ∀ e ∈ arr.toList, (Op.equal kt k e.key).run P w = .ok (p e.key) w) (hno : findV p (arr.toList.map fun e => (e.key, e.val)) = none) :
    (Instr.mapUpdate t (.map (some b)) k v).run P w = .ok () (ChangeMaps.setBlock w b (.map (arr.push ⟨k, v, ck⟩) (ck + 1))) := by
  obtain ⟨r, h1, h2⟩ := run_findKey hk arr.toList h
  rw [hno] at h2
  cases r with
  | some r => cases h2
  | none => simp [Instr.mapUpdate, run_underlying hu, MapKept.run_getObj_map hb, hchk, h1, MapKept.run_setObj_map _ hb, Result.andThen, ChangeMaps.setBlock]
end
section
variable {F : Fr} {c : Ctx} {id : Nat} {u : Value} {es es' : List (Value × Value)}
def Ctx.mput (c : Ctx) (id : Nat) (o' : Ob) (w' : World) : Ctx := { c with H := c.H.set id o', w := w' }
structure MPut (c : Ctx) (id b : Nat) (w' : World) : Prop where
  os : w'.os = c.w.os
  tape : w'.tape = c.w.tape
  output : w'.output = c.w.output
  drawn : w'.drawn = c.w.drawn
  size : w'.heap.size = c.w.heap.size
  blk : ∀ k, k ≠ b → w'.heap[k]? = c.w.heap[k]?
theorem mput_H (ho : c.H[id]? = some (.mp u es)) {w' : World} {i : Nat} {q : Ob} (h : c.H[i]? = some q) (hq : ∀ x y, q ≠ .mp x y) : (c.mput id (.mp u es') w').H[i]? = some q := by
  have hne : i ≠ id := fun e => by subst e; rw [ho] at h; cases h; exact hq _ _ rfl
  simp only [Ctx.mput]
  rw [List.getElem?_set_ne (Ne.symm hne)]
  exact h
theorem mput_pv (hI : Inv F c) {b : Nat} (hb : c.mu id = some b) {w' : World} (hp : MPut c id b w') {v : Value} {d : D} (h : PV c.I c.w v d) : PV c.I w' v d :=
  h.mono (fun _ h => h) fun k hk => hp.blk k fun e => (hI.loc id b hb).2.2 (by rw [← e]; exact hk)
theorem mput_room {b : Nat} {w' : World} (hp : MPut c id b w') {arr : Array MapEntry} {ck : Nat} (hh : c.w.heap[b]? = some (.map arr ck)) {k n : Nat} (h : Room c.w k n) : Room w' k n := by
  obtain ⟨cs, T, h1, h2⟩ := h
  exact ⟨cs, T, by rw [hp.blk k fun e => by subst e; rw [hh] at h1; cases h1]; exact h1, h2⟩
theorem mput_cv (hI : Inv F c) (ho : c.H[id]? = some (.mp u es)) {b : Nat} (hb : c.mu id = some b) {w' : World} (hp : MPut c id b w') {arr : Array MapEntry} {ck : Nat} (hh : c.w.heap[b]? = some (.map arr ck)) {v : Value} {d : D} (h : CV c v d) : CV (c.mput id (.mp u es') w') v d := by
  cases d <;> simp only [CV] at h ⊢ <;> try exact mput_pv hI hb hp h
  · exact h
  · obtain ⟨b', wd, n, f, h1, h2, h3, h4⟩ := h
    exact ⟨b', wd, n, f, h1, mput_H ho h2 (by simp), h3, h4⟩
  · obtain ⟨wd, n, f, a, cap, h1, h2, h3, h4, h5⟩ := h
    refine ⟨wd, n, f, a, cap, mput_H ho h1 (by simp), h2, h3, h4, h5.imp (fun x => x) ?_⟩
    rintro ⟨b', h6, h7, h8⟩
    exact ⟨b', h6, h7, mput_room hp hh h8⟩
theorem mput_av (hI : Inv F c) (ho : c.H[id]? = some (.mp u es)) {b : Nat} (hb : c.mu id = some b) {w' : World} (hp : MPut c id b w') {arr : Array MapEntry} {ck : Nat} (hh : c.w.heap[b]? = some (.map arr ck)) {v : Value} {d : D} (h : AV c v d) : AV (c.mput id (.mp u es') w') v d := by
  cases d <;> simp only [AV] at h ⊢ <;> try exact mput_cv hI ho hb hp hh h
  · obtain ⟨vs, h1, h2⟩ := h; exact ⟨vs, h1, h2.mono fun _ _ => mput_cv hI ho hb hp hh⟩
  · obtain ⟨vs, h1, h2⟩ := h; exact ⟨vs, h1, h2.mono fun _ _ => mput_cv hI ho hb hp hh⟩
theorem mput_tv (hI : Inv F c) (ho : c.H[id]? = some (.mp u es)) {b : Nat} (hb : c.mu id = some b) {w' : World} (hp : MPut c id b w') {arr : Array MapEntry} {ck : Nat} (hh : c.w.heap[b]? = some (.map arr ck)) {v : Value} {d : D} (h : TV c v d) : TV (c.mput id (.mp u es') w') v d := by
  cases d <;> simp only [TV] at h ⊢ <;> try exact mput_av hI ho hb hp hh h
  obtain ⟨vs, h1, h2⟩ := h; exact ⟨vs, h1, h2.mono fun _ _ => mput_av hI ho hb hp hh⟩
theorem mput_inv (hI : Inv F c) (ho : c.H[id]? = some (.mp u es)) {b : Nat} (hb : c.mu id = some b) {w' : World} (hp : MPut c id b w') {arr : Array MapEntry} {ck : Nat} (hh : c.w.heap[b]? = some (.map arr ck))
    (hov : OV (c.mput id (.mp u es') w') (some b) (.mp u es')) : Inv F (c.mput id (.mp u es') w') := by
  have hbl : ¬ F.lent b := fun hl => by
    obtain ⟨_, cs', T, _, h1, _⟩ := hI.below.shape b hl
    rw [hh] at h1; cases h1
  have hb0 : F.w0.heap.size ≤ b := (hI.loc id b hb).1.elim (fun h => h) fun h => absurd h hbl
  have hidl := (List.getElem?_eq_some_iff.1 ho).1
  refine ⟨?_, fun k hk => ⟨by show k < w'.heap.size; rw [hp.size]; exact (hI.imm k hk).1, (hI.imm k hk).2⟩, fun i k hk => ?_, hI.inj, fun i q h => ?_, fun i hi => hI.dom i (by simpa [Ctx.mput] using hi), hI.lent, fun hl => mput_H ho (hI.mark hl) (by simp),
    hI.fam.mono (fun i q j k h1 h2 => fblk_set (fun _ => rfl) h1 h2) (by show _ ≤ w'.heap.size; rw [hp.size]; exact Nat.le_refl _) (fun b _ h => .inl h) fun i b h => .inl ⟨i, h⟩⟩
  · refine ⟨hp.os.trans hI.below.os, hp.tape.trans hI.below.tape, hp.output.trans hI.below.output, by show _ ≤ w'.drawn; rw [hp.drawn]; exact hI.below.drawn, by show _ ≤ w'.heap.size; rw [hp.size]; exact hI.below.size, fun k hk hl => ?_, fun k hl => ?_⟩
    · show w'.heap[k]? = _
      rw [hp.blk k (by omega)]
      exact hI.below.block k hk hl
    · obtain ⟨cs0, cs1, T1, h1, h2, h3⟩ := hI.below.shape k hl
      refine ⟨cs0, cs1, T1, h1, ?_, h3⟩
      show w'.heap[k]? = _
      rw [hp.blk k fun e => hbl (e ▸ hl)]
      exact h2
  · obtain ⟨h1, h2, h3⟩ := hI.loc i k hk
    exact ⟨h1, by show k < w'.heap.size; rw [hp.size]; exact h2, h3⟩
  · by_cases e : i = id
    · subst e
      have : q = .mp u es' := by
        simp only [Ctx.mput] at h
        rw [List.getElem?_set_self hidl] at h
        cases h; rfl
      subst this
      have e2 : (c.mput i (.mp u es') w').mu i = some b := hb
      rw [e2]
      exact hov
    · have hH : c.H[i]? = some q := by simp only [Ctx.mput] at h; rw [List.getElem?_set_ne (Ne.symm e)] at h; exact h
      have hv := hI.obj i q hH
      have hne : ∀ k, c.mu i = some k → k ≠ b := fun k hk hkb => e (hI.inj i id b (hkb ▸ hk) hb)
      show OV (c.mput id (.mp u es') w') (c.mu i) q
      cases q with
      | fam foc is n wd vs ls => exact ov_fam hv (fun _ _ => mput_pv hI hb hp) fun j k e => hp.blk k fun h => (hI.fb hH e).2 id (by rw [h]; exact hb)
      | box cells =>
        obtain ⟨k, cs', T', hk, h1, h2⟩ := hv
        exact ⟨k, cs', T', hk, by show w'.heap[k]? = _; rw [hp.blk k (hne k hk)]; exact h1, h2.mono fun _ _ => mput_cv hI ho hb hp hh⟩
      | arr wd n f =>
        refine ⟨hv.1, hv.2.imp (fun x => x) ?_⟩
        rintro ⟨k, cs', T', hk, h1, h2, h3⟩
        exact ⟨k, cs', T', hk, by show w'.heap[k]? = _; rw [hp.blk k (hne k hk)]; exact h1, h2, fun i hi j d hd => let ⟨v, hv, ho, hp1⟩ := h3 i hi j d hd; ⟨v, hv, ho, mput_pv hI hb hp hp1⟩⟩
      | mp x y =>
        obtain ⟨k, a1, ck1, hk, h1, h2⟩ := hv
        exact ⟨k, a1, ck1, hk, by show w'.heap[k]? = _; rw [hp.blk k (hne k hk)]; exact h1, h2⟩
      | gone => exact hv
end
def OpS (P : Program) (ops : Array Oper) (k : Nat) (s : St) {α : Type} (S : α → St) : Prop :=
  ∀ F a w, GF P F → Rel F s a w → ∀ (Q : Exit → Act → World → Prop) (l : List Nat), (∀ x a' w', Rel F (S x) a' w' → wpOps P ops Q l a' w') → wpOps P ops Q (k :: l) a w
theorem rgo {P : Program} {Q : Exit → St → Prop} {s : St} {id : Nat} {ops : Array Oper} (k : Nat) (orc1 : List Res) (keep1 : List Nat) (hn1 : Nat) (s1 : St) (bs1 : List Bool) (rq1 : List Req) (hb1 : ∀ b ∈ bs1, b = true) (hq1 : Reqs P rq1)
    {α : Type} (S2 : α → St) (hop : OpS P ops k s1 S2) (orcB : List Res) (keepB : List Nat) (hnB : Nat) (s3 : α → St) (bsB : α → List Bool) (rqB : α → List Req) (hbB : ∀ x, ∀ b ∈ bsB x, b = true) (hqB : ∀ x, Reqs P (rqB x)) (kk : ∀ x, Q .normal (s3 x))
    (h1 : regTo P ops k orc1 keep1 hn1 s = some (s1, bs1, rq1) := by kernel_rfl) (hB : ∀ x, regFrom P ops (k + 1) orcB keepB hnB (S2 x) = some (s3 x, bsB x, rqB x) := by intro _; kernel_rfl) (hk : Nat.blt k ops.size = true := by kernel_rfl) : AWP P (.region id ops false) Q s := by
  intro F a w hG hR
  refine wp_region ?_
  have hk := blt_true hk
  have hnd : dstsB ops = true := by
    unfold regTo at h1
    cases hc : (dstsB ops && Nat.ble k ops.size) with
    | false => rw [hc] at h1; cases h1
    | true => simp only [Bool.and_eq_true] at hc; exact hc.1
  refine (ops_to h1 hb1 hq1.all (fun a w hR1 => ?_) hR).2
  rw [show ops.size - k = (ops.size - (k + 1)) + 1 by omega, List.range'_succ]
  exact hop F a w hG hR1 _ _ fun x a' w' hR2 => ops_from hnd (hB x) (hbB x) (hqB x).all (fun a w h => ⟨_, kk x, h⟩) hR2
theorem rel_putM {F : Fr} {nt : Nat} {e : List (Nat × D)} {H' : List Ob} {a : Act} {c' : Ctx} (henv : ∀ t, TV c' (a.tmps.getD t undef) (find e t)) (hsz : a.tmps.size = nt) (hd : a.defers = []) (hI : Inv F c') (hH : c'.H = H') {t : Nat} (ht : t < nt) {v : Value} {d : D} (hv : TV c' v d) :
    Rel F ⟨nt, (t, d) :: e, H'⟩ (a.put (some t) v) c'.w := by
  refine ⟨c', rfl, hH, hI, fun u => ?_, by rw [size_put]; exact hsz, by rw [defers_put]; exact hd⟩
  show TV c' _ (find ((t, d) :: e) u)
  simp only [find]
  cases hb : Nat.beq t u with
  | true =>
    obtain rfl := Nat.eq_of_beq_eq_true hb
    simp only [cond_true]
    rw [getD_put_same (by rw [hsz]; exact ht)]
    exact hv
  | false =>
    simp only [cond_false]
    rw [getD_put (by simpa using Nat.ne_of_beq_eq_false hb)]
    exact henv u
theorem opS_make {P : Program} {ops : Array Oper} {k nt : Nat} {e : List (Nat × D)} {H : List Ob} {t : Nat} {T : TypeId} {o : Oper} (hk : ops[k]? = some o) (hop : o.op = .makeMap T none) (hdst : o.dst = some t) (hg : o.guard = none) (ht : Nat.blt t nt = true) :
    OpS P ops k ⟨nt, e, H⟩ (fun u : Value => ⟨nt, (t, .val u) :: e, H ++ [.mp u []]⟩) := by
  rintro F a w hG ⟨c, rfl, hH, hI, henv, hsz, hd⟩ Q l hK
  obtain rfl : c.H = H := hH
  have hw : Region.wanted o (yielded ops a.tmps) = true := by simp [Region.wanted, hg]
  simp only [wpOps, hk, hw, if_true]
  have hm : More0 c.w (c.w.alloc (.map #[] 0)) := ⟨(Bw.refl _ _).alloc (Nat.le_refl _) _, by simp⟩
  refine .inl ?_
  have hrun : (execOp (fun x => a.eval x) o).run P c.w = .ok (.value (.map (some c.w.heap.size))) (c.w.alloc (.map #[] 0)) := by
    simp [execOp, hop, run_makeMap, Result.andThen]
  unfold Oper.wp
  rw [hrun]
  show wpOps P ops Q l (a.put o.dst _) _
  rw [hdst]
  refine hK (.map (some c.w.heap.size)) _ _ (rel_putM (c' := c.made (c.w.alloc (.map #[] 0)) (.mp (.map (some c.w.heap.size)) [])) (fun t => made_tv hI hm _ (henv t)) hsz hd (made_inv hI hm _ ⟨_, #[], 0, rfl, heap_alloc_new _ _, rfl, rfl⟩) rfl (blt_true ht) ?_)
  simp only [TV, AV, CV]
  exact .val _ rfl
def mpO {α : Type} (u : Value) (cK : α → List D) (l : List (α × Int)) : Ob := .mp u (l.map fun e => (exA (cK e.1), .int .i64 e.2))
def lkM {α : Type} (q : α → Bool) : List (α × Int) → Int × Bool
  | [] => (0, false)
  | e :: l => bif q e.1 then (e.2, true) else lkM q l
theorem findV_lk {α : Type} {cK : α → List D} {q : α → Bool} {p : Value → Bool} (h : ∀ x, p (exA (cK x)) = q x) : ∀ l : List (α × Int), findV p (l.map fun e => (exA (cK e.1), .int .i64 e.2)) = bif (lkM q l).2 then some (.int .i64 (lkM q l).1) else none
  | [] => rfl
  | e :: l => by
    simp only [List.map_cons, findV, lkM, h]
    cases q e.1 with
    | true => rfl
    | false => exact findV_lk h l
theorem arr_mem {α : Type} {cK : α → List D} {l : List (α × Int)} {arr : Array MapEntry} (h : arr.toList.map (fun e => (e.key, e.val)) = l.map fun e => (exA (cK e.1), Value.int .i64 e.2)) {e : MapEntry} (he : e ∈ arr.toList) : ∃ x, e.key = exA (cK x) := by
  have h1 : (e.key, e.val) ∈ l.map fun e => (exA (cK e.1), Value.int .i64 e.2) := by rw [← h]; exact List.mem_map.2 ⟨e, he, rfl⟩
  obtain ⟨x, _, hx⟩ := List.mem_map.1 h1
  exact ⟨x.1, by have := congrArg Prod.fst hx; exact this.symm⟩
theorem lkM_none {α : Type} {q : α → Bool} : ∀ l : List (α × Int), (lkM q l).2 = false → (lkM q l).1 = 0
  | [], _ => rfl
  | e :: l, h => by
    simp only [lkM] at h ⊢
    cases hq : q e.1 with
    | true => rw [hq] at h; cases h
    | false => rw [hq] at h; simp only [cond_false] at h ⊢; exact lkM_none l h
structure KeyT (P : Program) (T kt et : TypeId) {α : Type} (cK : α → List D) (eq : α → α → Bool) : Prop where
  map : P.underlying T = some (.map kt et)
  str : ∃ fs, P.underlying kt = some (.struct fs)
  size : ∃ n, szO P kt = some n ∧ ∀ y, (cK y).length = n
  exB : ∀ y, (cK y).all exB = true
  check : ∀ em y w, (Instr.checkKey em 10000 kt (exA (cK y))).run P w = .ok () w
  zero : ∀ w, (zeroValue et).run P w = .ok (.int .i64 0) w
  eq : ∀ x y, typeEq P 40 kt (cK x) (cK y) = some (eq x y)
theorem KeyT.laid {P : Program} {T kt et : TypeId} {α : Type} {cK : α → List D} {eq : α → α → Bool} (K : KeyT P T kt et cK eq) (c : Ctx) (y : α) : Laid P c kt (exA (cK y)) (cK y) := by
  obtain ⟨fs, hs⟩ := K.str
  obtain ⟨n, hn, hl⟩ := K.size
  exact .inl ⟨fs, n, _, hs, hn, by rw [hl]; exact Nat.le_refl _, rfl, by rw [← hl y, List.take_length]; exact exA_vs c (K.exB y)⟩
theorem KeyT.equal {P : Program} {T kt et : TypeId} {α : Type} {cK : α → List D} {eq : α → α → Bool} (K : KeyT P T kt et cK eq) (c : Ctx) (x y : α) : (Op.equal kt (exA (cK x)) (exA (cK y))).run P c.w = .ok (eq x y) c.w := by
  have := (eq_ok P c 40).1 _ _ _ _ (K.eq x y) 10000 (by omega) _ _ (K.laid c x) (K.laid c y)
  simpa [Op.equal, Op.maxDepth] using this
noncomputable def keyP {α : Type} (cK : α → List D) (eq : α → α → Bool) (x : α) (v : Value) : Bool := pB (∃ y, v = exA (cK y) ∧ eq x y = true)
theorem KeyT.keyP_eq {P : Program} {T kt et : TypeId} {α : Type} {cK : α → List D} {eq : α → α → Bool} (K : KeyT P T kt et cK eq) (c : Ctx) (x y : α) : keyP cK eq x (exA (cK y)) = eq x y := by
  cases h : eq x y with
  | true => exact pB_of ⟨y, rfl, h⟩
  | false =>
    cases hp : keyP cK eq x (exA (cK y)) with
    | false => rfl
    | true =>
      obtain ⟨y', h1, h2⟩ := pB_true.1 hp
      have h3 := K.equal c x y
      have h4 := K.equal c x y'
      rw [← h1, h3, h, h2] at h4
      cases h4
theorem tv_agg_ex {c : Ctx} {v : Value} {cs : List D} (hb : cs.all exB = true) (h : TV c v (.agg cs)) : v = exA cs := by
  simp only [TV, AV] at h
  obtain ⟨vs, rfl, h2⟩ := h
  exact vs_exA hb h2
theorem tv_val {c : Ctx} {v u : Value} (h : TV c v (.val u)) : v = u := by
  simp only [TV, AV, CV] at h
  cases h; rfl
theorem opS_look {P : Program} {ops : Array Oper} {k nt : Nat} {e : List (Nat × D)} {H : List Ob} {t tm tx : Nat} {T kt et : TypeId} {o : Oper} {α : Type} {u : Value} {cK : α → List D} {eq : α → α → Bool} {l : List (α × Int)} {id : Nat} (K : KeyT P T kt et cK eq) (key : α)
    (hk : ops[k]? = some o) (hop : o.op = .lookup T (.tmp tm) (.tmp tx) true) (hdst : o.dst = some t) (hg : o.guard = none) (ht : Nat.blt t nt = true) (hm : find e tm = .val u) (hx : find e tx = .agg (cK key)) (hi : H[id]? = some (mpO u cK l)) :
    OpS P ops k ⟨nt, e, H⟩ (fun _ : Unit => ⟨nt, (t, .tup [.int .i64 (lkM (eq key) l).1, .bool (lkM (eq key) l).2]) :: e, H⟩) := by
  rintro F a w hG ⟨c, rfl, hH, hI, henv, hsz, hd⟩ Q l' hK
  obtain rfl : c.H = H := hH
  have hw : Region.wanted o (yielded ops a.tmps) = true := by simp [Region.wanted, hg]
  have h1 : a.eval (.tmp tm) = u := tv_val (c := c) (by have := henv tm; rw [hm] at this; exact this)
  have h2 : a.eval (.tmp tx) = exA (cK key) := tv_agg_ex (c := c) (K.exB key) (by have := henv tx; rw [hx] at this; exact this)
  obtain ⟨b, arr, ck, hb, h3, h4, rfl⟩ := hI.obj id _ hi
  obtain ⟨fs, hs⟩ := K.str
  have hrun := run_look (p := keyP cK eq key) (w := c.w) K.map hs h3 (fun em => K.check em key c.w) (K.zero c.w) fun en hen => by
    obtain ⟨y, hy⟩ := arr_mem h4 hen
    rw [hy, K.keyP_eq c]
    exact K.equal c key y
  have hfv : findV (keyP cK eq key) (arr.toList.map fun e => (e.key, e.val)) = bif (lkM (eq key) l).2 then some (.int .i64 (lkM (eq key) l).1) else none := by
    rw [h4]
    exact findV_lk (K.keyP_eq c key) l
  rw [hfv] at hrun
  have hres : (Value.tuple #[(bif (lkM (eq key) l).2 then some (Value.int .i64 (lkM (eq key) l).1) else none).getD (.int .i64 0), .bool (bif (lkM (eq key) l).2 then some (Value.int .i64 (lkM (eq key) l).1) else none).isSome]) = .tuple #[.int .i64 (lkM (eq key) l).1, .bool (lkM (eq key) l).2] := by
    cases hq : (lkM (eq key) l).2 with
    | true => rfl
    | false => rw [lkM_none l hq]; rfl
  rw [hres] at hrun
  simp only [wpOps, hk, hw, if_true]
  refine .inl ?_
  have hex : (execOp (fun x => a.eval x) o).run P c.w = .ok (.value (.tuple #[.int .i64 (lkM (eq key) l).1, .bool (lkM (eq key) l).2])) c.w := by
    simp [execOp, hop, h1, h2, hrun, Result.andThen]
  unfold Oper.wp
  rw [hex]
  show wpOps P ops Q l' (a.put o.dst _) _
  rw [hdst]
  refine hK () _ _ (rel_putM (c' := c) henv hsz hd hI rfl (blt_true ht) ⟨_, rfl, rfl, fun i v d g1 g2 => ?_⟩)
  match i with
  | 0 => simp at g1 g2; subst g1; subst g2; exact .int _ _
  | 1 => simp at g1 g2; subst g1; subst g2; exact .bool _
  | n + 2 => simp at g1
theorem opS_upd {P : Program} {ops : Array Oper} {k nt : Nat} {e : List (Nat × D)} {H : List Ob} {tm tx tv : Nat} {T kt et : TypeId} {o : Oper} {α : Type} {u : Value} {cK : α → List D} {eq : α → α → Bool} {l : List (α × Int)} {id : Nat} (K : KeyT P T kt et cK eq) (key : α) (n : Int)
    (hk : ops[k]? = some o) (hop : o.op = .mapUpdate T (.tmp tm) (.tmp tx) (.tmp tv)) (hdst : o.dst = none) (hg : o.guard = none) (hm : find e tm = .val u) (hx : find e tx = .agg (cK key)) (hv : find e tv = .int .i64 n) (hi : H[id]? = some (mpO u cK l)) (hno : (lkM (eq key) l).2 = false) :
    OpS P ops k ⟨nt, e, H⟩ (fun _ : Unit => ⟨nt, e, H.set id (mpO u cK (l ++ [(key, n)]))⟩) := by
  rintro F a w hG ⟨c, rfl, hH, hI, henv, hsz, hd⟩ Q l' hK
  obtain rfl : c.H = H := hH
  have hw : Region.wanted o (yielded ops a.tmps) = true := by simp [Region.wanted, hg]
  have h1 : a.eval (.tmp tm) = u := tv_val (c := c) (by have := henv tm; rw [hm] at this; exact this)
  have h2 : a.eval (.tmp tx) = exA (cK key) := tv_agg_ex (c := c) (K.exB key) (by have := henv tx; rw [hx] at this; exact this)
  have h2v : a.eval (.tmp tv) = .int .i64 n := by have := henv tv; rw [hv] at this; exact this.int_inv
  obtain ⟨b, arr, ck, hb, h3, h4, rfl⟩ := hI.obj id _ hi
  obtain ⟨fs, hs⟩ := K.str
  have hfv : findV (keyP cK eq key) (arr.toList.map fun e => (e.key, e.val)) = none := by
    rw [h4, findV_lk (K.keyP_eq c key) l, hno]
    rfl
  have hrun := run_update (p := keyP cK eq key) (w := c.w) (v := .int .i64 n) K.map hs h3 (fun em => K.check em key c.w) (fun en hen => by
    obtain ⟨y, hy⟩ := arr_mem h4 hen
    rw [hy, K.keyP_eq c]
    exact K.equal c key y) hfv
  have hp : MPut c id b (ChangeMaps.setBlock c.w b (.map (arr.push ⟨exA (cK key), .int .i64 n, ck⟩) (ck + 1))) :=
    ⟨rfl, rfl, rfl, rfl, by simp [ChangeMaps.setBlock], fun k hk => ChangeMaps.heap_setBlock_other h3 _ hk⟩
  have hI' := mput_inv (es' := (l ++ [(key, n)]).map fun e => (exA (cK e.1), Value.int .i64 e.2)) hI hi hb hp h3 ⟨b, _, _, rfl, ChangeMaps.heap_setBlock_same h3 _, by simp [h4], rfl⟩
  simp only [wpOps, hk, hw, if_true]
  refine .inl ?_
  have hex : (execOp (fun x => a.eval x) o).run P c.w = .ok .skip (ChangeMaps.setBlock c.w b (.map (arr.push ⟨exA (cK key), .int .i64 n, ck⟩) (ck + 1))) := by
    simp [execOp, hop, h1, h2, h2v, hrun, Result.andThen]
  unfold Oper.wp
  rw [hex]
  show wpOps P ops Q l' (a.put o.dst _) _
  rw [hdst]
  exact hK () _ _ ⟨_, rfl, rfl, hI', fun t => mput_tv hI hi hb hp h3 (henv t), hsz, hd⟩
end Nv
namespace Nv
open Go Go.RowKit
theorem beq_no {j k : Nat} (h : j ≠ k) : Nat.beq j k = false := by
  cases hb : Nat.beq j k with
  | false => rfl
  | true => exact absurd (Nat.eq_of_beq_eq_true hb) h
def NilS : Type := { u : Value // ∃ ad, u = Value.slice ad 0 0 }
theorem leE_nilval {nt : Nat} {e : List (Nat × D)} {H : List Ob} (id k j : Nat) {wd n w1 : Nat} {f g : Nat → List D} (ho : H[id]? = some (.arr wd n f)) (hk : k < n) (hd : (f k)[j]? = some (.sl true w1 0 g)) :
    LeE ⟨nt, e, H⟩ fun u : NilS => ⟨nt, e, H.set id (.arr wd n fun i => bif Nat.beq i k then (f k).set j (.val u.1) else f i)⟩ := by
  rintro F a w ⟨c, rfl, hH, hI, henv, hsz, hdf⟩
  obtain rfl : c.H = H := hH
  have hov := hI.obj id _ ho
  obtain ⟨b, cs, T, h1, h2, h3, h4⟩ := hov.2.resolve_left fun h => by omega
  obtain ⟨v, h5, h6, h7⟩ := h4 k hk j _ hd
  obtain ⟨ad, rfl⟩ : ∃ ad, v = .slice ad 0 0 := by
    cases h7 with
    | sl ad _ cap _ _ _ _ hfull => rw [hfull rfl]; exact ⟨ad, rfl⟩
  have hs : ∀ wd' n' f0, Ob.arr wd n f = .arr wd' n' f0 → ∃ f1, Ob.arr wd n (fun i => bif Nat.beq i k then (f k).set j (.val (.slice ad 0 0)) else f i) = .arr wd' n' f1 := fun wd' n' f0 h => by cases h; exact ⟨_, rfl⟩
  refine ⟨⟨.slice ad 0 0, ad, rfl⟩, c.seen id _, rfl, rfl, seen_inv hI ho (by simp) hs (fun h => ⟨fun i hi => ?_, .inr ⟨b, cs, T, h1, h2, h3, fun i hi q d hq => ?_⟩⟩) (hI.fam.mono (fun i o jj b h1 h2 => fblk_set (fun _ => rfl) h1 h2) (Nat.le_refl _) (fun b _ h => .inl h) fun i b h => .inl ⟨i, h⟩), fun t => seen_tv ho hs (henv t), hsz, hdf⟩
  · show (bif Nat.beq i k then (f k).set j (.val (.slice ad 0 0)) else f i).length = wd
    by_cases e : i = k
    · subst e; rw [Nat.beq_refl]; simp only [cond_true, List.length_set]; exact h.1 i hi
    · rw [beq_no e]; exact h.1 i hi
  · have hq : (bif Nat.beq i k then (f k).set j (.val (.slice ad 0 0)) else f i)[q]? = some d := hq
    by_cases e : i = k
    · subst e
      rw [Nat.beq_refl] at hq
      simp only [cond_true] at hq
      by_cases e : q = j
      · subst e
        rw [List.getElem?_set_self (List.getElem?_eq_some_iff.1 hd).1] at hq
        cases hq
        exact ⟨_, h5, h6, .val _ h6⟩
      · rw [List.getElem?_set_ne (Ne.symm e)] at hq
        exact h4 i hi q d hq
    · rw [beq_no e] at hq; exact h4 i hi q d hq
theorem app_old {f g : Nat → List D} {n j : Nat} (h : j < n) : app f n g j = f j := by
  unfold app
  rw [show Nat.blt j n = true from Nat.ble_eq_true_of_le h]
  rfl
theorem app_at {f g : Nat → List D} {n : Nat} : app f n g n = g 0 := by
  unfold app
  rw [show Nat.blt n n = false by (cases hb : Nat.blt n n with | false => rfl | true => exact absurd (blt_true hb) (Nat.lt_irrefl _)), Nat.sub_self]
  rfl
section
variable {α β : Type} [Inhabited α] [Inhabited β]
def rA (wd : Nat) (hd : α → List D) (l : List α) (vs : Nat → Value) : Ob := .arr wd l.length fun j => hd (l.getD j default) ++ [.val (vs j)]
def rls (c : β → List D) (tl : α → List β) (l : List α) (j : Nat) : Nat × (Nat → List D) := ((tl (l.getD j default)).length, fun i => c ((tl (l.getD j default)).getD i default))
def rF (wd : Nat) (c : β → List D) (tl : α → List β) (l : List α) (vs : Nat → Value) : Ob := .fam 0 (fun _ => false) l.length wd vs (rls c tl l)
theorem le_eqv {nt : Nat} {e : List (Nat × D)} {H : List Ob} (id wd n n' : Nat) (f f' : Nat → List D) (ho : H[id]? = some (.arr wd n f)) (hn : n = n') (h : ∀ i, i < n → f i = f' i) : Le ⟨nt, e, H⟩ ⟨nt, e, H.set id (.arr wd n' f')⟩ := by
  subst hn
  exact le_cont id wd n f f' ho (fun i hi => by rw [h i hi]) fun i hi j d' hd => ⟨d', by rw [h i hi]; exact hd, fun _ _ _ h => h⟩
theorem leE_rgrow {nt : Nat} {e : List (Nat × D)} {H : List Ob} (ida idf : Nat) {wd wi w1 : Nat} (hd : α → List D) (c : β → List D) (tl : α → List β) (l : List α) (x : α) (vs : Nat → Value) {f g : Nat → List D} (hne : ida ≠ idf) (hx : tl x = [])
    (ha : H[ida]? = some (.arr wd (l.length + 1) f)) (hf : H[idf]? = some (rF wi c tl l vs)) (hold : ∀ j, j < l.length → f j = hd (l.getD j default) ++ [.val (vs j)]) (hnew : f l.length = hd x ++ [.sl true w1 0 g]) :
    LeE ⟨nt, e, H⟩ fun u : NilS => ⟨nt, e, (H.set ida (rA wd hd (l ++ [x]) (updV vs l.length u.1))).set idf (rF wi c tl (l ++ [x]) (updV vs l.length u.1))⟩ := by
  refine LeE.then (leE_nilval (w1 := w1) (g := g) ida l.length (hd x).length ha (by omega) (by rw [hnew]; simp)) fun u => LeE.of u ?_
  have hia := (List.getElem?_eq_some_iff.1 ha).1
  have hold1 : ∀ j, j < l.length → (l ++ [x]).getD j default = l.getD j default := fun j hj => by simp [List.getElem?_append_left hj]
  refine Le.trans (le_eqv ida wd (l.length + 1) (l ++ [x]).length _ (fun j => hd ((l ++ [x]).getD j default) ++ [.val (updV vs l.length u.1 j)]) (List.getElem?_set_self hia) (by simp) fun j hj => ?_) ?_
  · by_cases h : j = l.length
    · subst h
      rw [Nat.beq_refl, updV_self, hnew]
      simp
    · rw [beq_no h, updV_ne h, hold1 j (by omega)]
      exact hold j (by omega)
  rw [List.set_set]
  refine le_refam (idf := idf) (H := H.set ida (rA wd hd (l ++ [x]) (updV vs l.length u.1))) (by rw [List.getElem?_set_ne hne]; exact hf) (l ++ [x]).length (updV vs l.length u.1) (rls c tl (l ++ [x])) (fun j => j) (fun j hj => ?_) (fun i j _ _ _ _ h => h)
  rw [List.length_append, List.length_singleton] at hj
  by_cases h : j = l.length
  · subst h
    refine .inl ⟨?_, ?_⟩
    · rw [updV_self]; exact u.2
    · simp [rls, hx]
  · have hj' : j < l.length := by omega
    refine .inr ⟨hj', updV_ne h, ?_, fun i hi => ?_⟩
    · simp only [rls, hold1 j hj']
    · simp only [rls, hold1 j hj']
theorem le_rset {nt : Nat} {e : List (Nat × D)} {H : List Ob} (ida idf : Nat) {wd wi : Nat} (hd : α → List D) (c : β → List D) (tl : α → List β) (l : List α) (x : α) (vs : Nat → Value) (k : Nat) (u : Value) (m : Nat) (g : Nat → List D) (ls1 : Nat → Nat × (Nat → List D)) (vs1 : Nat → Value) (f : Nat → List D) (hne : ida ≠ idf)
    (ha : H[ida]? = some (.arr wd l.length f)) (hf : H[idf]? = some (.fam 0 (fun _ => false) l.length wi (updV vs1 k u) (updL ls1 k (m, g)))) (hfo : ∀ j, j < l.length → j ≠ k → f j = hd (l.getD j default) ++ [.val (vs j)]) (hfk : k < l.length → f k = hd x ++ [.val u])
    (hvs : ∀ j, j ≠ k → vs1 j = vs j) (hls : ∀ j, j ≠ k → ls1 j = rls c tl l j) (hm : m = (tl x).length) (hg : ∀ i, i < m → g i = c ((tl x).getD i default)) :
    Le ⟨nt, e, H⟩ ⟨nt, e, (H.set ida (rA wd hd (l.set k x) (updV vs k u))).set idf (rF wi c tl (l.set k x) (updV vs k u))⟩ := by
  have hia := (List.getElem?_eq_some_iff.1 ha).1
  have hk : ∀ j, j < l.length → j = k → (l.set k x).getD j default = x := fun j hj h => by subst h; simp [hj]
  have hnk : ∀ j, j ≠ k → (l.set k x).getD j default = l.getD j default := fun j h => by simp [List.getElem?_set_ne (Ne.symm h)]
  refine Le.trans (le_eqv ida wd l.length (l.set k x).length f (fun j => hd ((l.set k x).getD j default) ++ [.val (updV vs k u j)]) ha (by simp) fun j hj => ?_) ?_
  · by_cases h : j = k
    · rw [hk j hj h, h, updV_self]; exact hfk (h ▸ hj)
    · rw [hnk j h, updV_ne h]; exact hfo j hj h
  refine le_refam (idf := idf) (H := H.set ida (rA wd hd (l.set k x) (updV vs k u))) (by rw [List.getElem?_set_ne hne]; exact hf) (l.set k x).length (updV vs k u) (rls c tl (l.set k x)) (fun j => j) (fun j hj => .inr ?_) (fun i j _ _ _ _ h => h)
  rw [List.length_set] at hj
  refine ⟨hj, ?_, ?_, fun i hi => ?_⟩
  · by_cases h : j = k
    · subst h; rw [updV_self, updV_self]
    · rw [updV_ne h, updV_ne h, hvs j h]
  · by_cases h : j = k
    · simp only [rls, hk j hj h]; rw [h, updL_self]; exact hm.symm
    · rw [updL_ne h, hls j h]; simp only [rls, hnk j h]
  · by_cases h : j = k
    · simp only [rls, hk j hj h] at hi ⊢; rw [h, updL_self]; exact (hg i (by omega)).symm
    · rw [updL_ne h, hls j h]; simp only [rls, hnk j h]
theorem le_rfrz {nt : Nat} {e : List (Nat × D)} {H : List Ob} (ida idf : Nat) {wd wi : Nat} (hd : α → List D) (c : β → List D) (tl : α → List β) (cr : α → List D) (l : List α) (vs : Nat → Value) (ha : H[ida]? = some (rA wd hd l vs)) (hf : H[idf]? = some (rF wi c tl l vs)) (hcr : ∀ x, cr x = hd x ++ [sL wi c (tl x)]) :
    Le ⟨nt, e, H⟩ ⟨nt, e, (H.set idf (.fam 0 (fun _ => false) 0 wi vs (rls c tl l))).set ida (aL wd cr l)⟩ :=
  le_frF (idf := idf) hf ida wd l.length _ (fun i => cr (l.getD i default)) ha (fun i _ => by rw [hcr]; simp) fun i hi j d' hd' => by
    rw [hcr] at hd'
    rcases Nat.lt_trichotomy j (hd (l.getD i default)).length with h | h | h
    · rw [List.getElem?_append_left h] at hd'
      exact ⟨d', by rw [List.getElem?_append_left h]; exact hd', .inl rfl⟩
    · subst h
      rw [List.getElem?_append_right (Nat.le_refl _), Nat.sub_self] at hd'
      simp at hd'
      subst hd'
      exact ⟨.val (vs i), by rw [List.getElem?_append_right (Nat.le_refl _), Nat.sub_self]; rfl, .inr ⟨i, hi, rfl, rfl⟩⟩
    · rw [List.getElem?_append_right (by omega)] at hd'
      have : j - (hd (l.getD i default)).length = (j - (hd (l.getD i default)).length - 1) + 1 := by omega
      rw [this] at hd'
      simp at hd'
theorem le_rows0 {nt : Nat} {e : List (Nat × D)} {H : List Ob} {wd wi : Nat} (hd : α → List D) (c : β → List D) (tl : α → List β) (f : Nat → List D) :
    Le ⟨nt, e, H ++ [.arr wd 0 f]⟩ ⟨nt, e, H ++ [rA wd hd ([] : List α) (fun _ => nilV), rF wi c tl ([] : List α) (fun _ => nilV)]⟩ := by
  refine Le.trans (le_eqv H.length wd 0 ([] : List α).length f (fun j => hd (([] : List α).getD j default) ++ [.val nilV]) (by simp) rfl fun j hj => by omega) ?_
  have e1 : (H ++ [Ob.arr wd 0 f]).set H.length (Ob.arr wd ([] : List α).length fun j => hd (([] : List α).getD j default) ++ [D.val nilV]) = H ++ [rA wd hd ([] : List α) (fun _ => nilV)] := by
    rw [List.set_append_right _ _ (Nat.le_refl _), Nat.sub_self]; rfl
  rw [e1]
  refine Le.trans (le_fam0 0 wi fun _ => []) ?_
  refine Le.trans (le_refam (idf := H.length + 1) (n := 0) (foc := 0) (is := fun _ => false) (wd := wi) (vs := fun _ => nilV) (ls := fun _ => (0, fun _ => [])) (by simp) 0 (fun _ => nilV) (rls c tl ([] : List α)) (fun j => j) (fun j hj => by omega) (fun i j hi => by omega)) ?_
  have e2 : ((H ++ [rA wd hd ([] : List α) (fun _ => nilV)] ++ [Ob.fam 0 (fun _ => false) 0 wi (fun _ => nilV) fun _ => (0, fun _ => [])]).set (H.length + 1) (.fam 0 (fun _ => false) 0 wi (fun _ => nilV) (rls c tl ([] : List α)))) = H ++ [rA wd hd ([] : List α) (fun _ => nilV), rF wi c tl ([] : List α) (fun _ => nilV)] := by
    rw [List.set_append_right _ _ (by simp)]
    simp [rF]
  rw [e2]
  exact le_rfl
omit [Inhabited α] in
end
end Nv
namespace Nv
open Go Go.RowKit
theorem casl_len {i o n n' : Nat} (h : n = n') : CSub (.asl i o n) (.asl i o n') := h ▸ CSub.rfl
theorem le_thawb {nt : Nat} {e : List (Nat × D)} {H : List Ob} (id q : Nat) {cells : List D} {wd : Nat} {f : Nat → List D} (ho : H[id]? = some (.box cells)) (hq : cells[q]? = some (.sl true wd 0 f)) (wd' : Nat) (g : Nat → List D) :
    Le ⟨nt, e, H⟩ ⟨nt, e, (H ++ [Ob.arr wd' 0 g]).set id (Ob.box (cells.set q (D.asl H.length 0 0)))⟩ := by
  rintro F a w ⟨c, rfl, hH, hI, henv, hsz, hd⟩
  obtain rfl : c.H = H := hH
  have hI1 : Inv F (c.made0 (.arr wd' 0 g)) := made0_inv hI wd' g
  have hid := (List.getElem?_eq_some_iff.1 ho).1
  have ho1 : (c.made0 (.arr wd' 0 g)).H[id]? = some (.box cells) := by
    show (c.H ++ [Ob.arr wd' 0 g])[id]? = _
    rw [List.getElem?_append_left hid]; exact ho
  refine ⟨(c.made0 (.arr wd' 0 g)).seen id (.box (cells.set q (.asl c.H.length 0 0))), rfl, rfl, seen_inv hI1 ho1 (by simp) (by simp) (fun h => ?_) (hI1.fam.mono (fun i o jj b h1 h2 => fblk_set (fun _ => rfl) h1 h2) (Nat.le_refl _) (fun b _ h => .inl h) fun i b h => .inl ⟨i, h⟩), fun t => seen_tv ho1 (by simp) (made0_tv _ (henv t)), hsz, hd⟩
  obtain ⟨b, cs, T, h1, h2, h3⟩ := h
  refine ⟨b, cs, T, h1, h2, by rw [h3.1]; simp, fun i v d g1 g2 => ?_⟩
  by_cases e : i = q
  · subst e
    rw [List.getElem?_set_self (List.getElem?_eq_some_iff.1 hq).1] at g2
    cases g2
    have h4 := h3.2 i v _ g1 hq
    simp only [CV] at h4 ⊢
    cases h4 with
    | sl x n cap wd full f g0 hfull =>
      refine ⟨wd', 0, g, x, 0, ?_, Nat.le_refl _, by rw [hfull rfl], Nat.le_refl _, .inl rfl⟩
      show ((c.H ++ [Ob.arr wd' 0 g]).set id _)[c.H.length]? = _
      rw [List.getElem?_set_ne (by omega), List.getElem?_append_right (Nat.le_refl _), Nat.sub_self]
      rfl
  · rw [List.getElem?_set_ne (Ne.symm e)] at g2
    exact seen_cv ho1 (by simp) (h3.2 i v d g1 g2)
end Nv
