/- append, on abstract values. -/
import Derived.Test.YtmangnohekiphaaNvAppend
namespace Nv
open Go Go.RowKit

def appD (P : Program) (H : List Ob) (t : TypeId) (s x : D) : Option (D × List Ob × Option Nat × List Bool) :=
  match elemD P t, srcD H (adj P t x) with
  | some (sz, by_), some (wd, m, g) =>
    bif Nat.beq wd sz then
      match adj P t s with
      | .sl true wd' n f => bif Nat.beq wd' sz then
          some (.asl H.length 0 (n + m), H ++ [.arr sz (n + m) (app f n g)], none, [decide (n = 0) || decide (0 < m), decide ((n + m) * by_ ≤ 140737488355328)]) else none
      | .asl id off len => match H[id]? with
        | some (.arr wd' _ f) => bif Nat.beq wd' sz && Nat.beq off 0 && freeB H id then
            some (.asl id 0 (len + m), (H.set id (.arr sz (len + m) (app f len g))).map (purgeO id), some id, [decide ((len + m) * by_ ≤ 140737488355328)]) else none
        | _ => none
      | _ => none
    else none
  | _, _ => none

theorem Src.congr {c : Ctx} {v : Value} {wd m : Nat} {g g' : Nat → List D} {a : Option Addr} {cap : Nat} {gv : Nat → Nat → Value} (h : Src c v wd m g a cap gv) (hg : ∀ i, i < m → g' i = g i) : Src c v wd m g' a cap gv :=
  ⟨h.val, h.le, h.cell, fun i hi => by rw [hg i hi]; exact h.len i hi, h.one, fun i hi j d hd => h.pv i hi j d (by rw [← hg i hi]; exact hd)⟩

theorem app_len {sz n m : Nat} {f g : Nat → List D} (hf : ∀ i, i < n → (f i).length = sz) (hg : ∀ i, i < m → (g i).length = sz) : ∀ i, i < n + m → (app f n g i).length = sz := by
  intro i hi
  unfold app
  cases hlt : Nat.blt i n with
  | true => exact hf i (blt_true hlt)
  | false => have := blt_false hlt; exact hg _ (by omega)

theorem append_room {P : Program} {t ty e : TypeId} {sz by_ : Nat} {ti : TypeInfo} {z : Value} (hE : Elem P t e sz by_ ti z) (w : World) (g n cap : Nat) (cur : Array Value) (T : TypeId) (hg : w.heap[g]? = some (.cells cur T (0, 0)))
    (a : Addr) (m c : Nat) (news : List Value) (hl : news.length = m * sz) (hnews : ∀ (j : Nat) (u : Value), news[j]? = some u → w.cell? (a.add j) = some u) (h1 : ∀ u ∈ news, u.oneCell' = true)
    (hroom : n + m ≤ cap) (hfit : n * sz + news.length ≤ cur.size) :
    (Builtin.append_ #[t, t] ty #[.slice (some ⟨g, 0, none⟩) n cap, .slice (some a) m c]).run P w = .ok (.slice (some ⟨g, 0, none⟩) (n + m) cap) (w.setRow g (splV cur news (n * sz))) := by
  have hf := run_firstCells_some (P := P) w sz m a m c news hl hnews
  have hst := run_storeCells_at (P := P) g (n * sz) T news 0 cur w hg (by simpa using hfit) h1
  simp only [Nat.add_zero] at hst
  have hsz := hE.size
  simp [Builtin.append_, run_underlying hE.ut, Go.sizeOf, typeInfo, hE.info, hsz, Builtin.lenOf, hroom, hf, Addr.add_lit, hst, splV]

theorem appD_ok {P : Program} {F : Fr} {c : Ctx} (hI : Inv F c) {t ty : TypeId} {s x d : D} {H' : List Ob} {pid : Option Nat} {bs : List Bool} (h : appD P c.H t s x = some (d, H', pid, bs)) (hb : ∀ b ∈ bs, b = true)
    {vs vx : Value} (hs : TV c vs s) (hx : TV c vx x) : Turns P F c (do pure (.value (← Builtin.append_ #[t, t] ty #[vs, vx]))) d H' pid := by
  unfold appD at h
  split at h <;> try cases h
  rename_i sz by_ wd m g hel hsrc
  obtain ⟨hsz, hbp, e, ti, z, hE⟩ := elemD_ok hel
  have hx' := tv_adj (P := P) (t := t) hx
  have hs' := tv_adj (P := P) (t := t) hs
  obtain ⟨xa, xc, hv, hX⟩ := src_ok hI hsrc hx'
  cases hw : Nat.beq wd sz with
  | false => simp [hw] at h
  | true =>
    obtain rfl := Nat.eq_of_beq_eq_true hw
    simp only [hw, cond_true] at h
    split at h
    · rename_i wd' n f hadj
      cases hw' : Nat.beq wd' wd with
      | false => simp [hw'] at h
      | true =>
        simp only [hw', cond_true, Option.some.injEq, Prod.mk.injEq] at h
        obtain ⟨rfl, rfl, rfl, rfl⟩ := h
        obtain rfl := Nat.eq_of_beq_eq_true hw'
        obtain ⟨b1, b2⟩ := all2 hb
        simp only [Bool.or_eq_true, decide_eq_true_eq] at b1 b2
        rw [hadj] at hs'
        obtain ⟨a, cap, gv, hS⟩ := src_ok hI (x := .sl true wd' n f) rfl hs'
        have hcap : cap = n := by
          have h1 := hs'
          simp only [TV, AV, CV] at h1
          have h2 := hS.val
          subst h2
          cases h1 with
          | sl a n cap wd full f g hfull => exact hfull rfl
        subst hcap
        rcases Nat.eq_zero_or_pos m with hm | hm
        · subst hm
          have hn : cap = 0 := by omega
          subst hn
          obtain rfl := hS.val
          obtain rfl := hX.val
          have hr := append_zero (ty := ty) hE c.w a 0 0 (Nat.le_refl _) xa xc
          refine ⟨.slice a 0 0, c.made0 (.arr wd' 0 (app f 0 g)), .inl (by simp [hr, Ctx.made0]), made0_inv hI _ _, rfl, fun u e h => made0_tv _ h, ?_⟩
          simp only [TV, AV, CV]
          exact ⟨wd', 0, app f 0 g, a, 0, by simp [Ctx.made0], Nat.le_refl _, rfl, Nat.le_refl _, .inl rfl⟩
        · have h63 : cap + m ≤ 9223372036854775807 := by
            have := Nat.le_mul_of_pos_right (cap + m) hbp
            omega
          obtain ⟨cs, w', cap', hr, hm', hc1, hc2, hcells⟩ := append_grow (ty := ty) hE hS hX hm (by omega) (fun ha => by
            rcases Nat.eq_zero_or_pos cap with h0 | h0
            · exact h0
            · obtain ⟨_, _, h1, _⟩ := hS.cell h0; rw [ha] at h1; cases h1) b2 h63
          refine ⟨.slice (some ⟨c.w.heap.size, 0, none⟩) (cap + m) cap', c.made w' (.arr wd' (cap + m) (app f cap g)), .inl (by simp [hr, Ctx.made]), made_inv hI hm' _ ⟨app_len hS.len hX.len, .inr ⟨_, cs, e, rfl, hm'.new, ?_, fun i hi j d hd => ?_⟩⟩, rfl, fun u e h => made_tv hI hm' _ h, ?_⟩
          · exact Nat.le_trans (Nat.mul_le_mul_right _ hc1) hc2
          · obtain ⟨u, h1, h2, h3⟩ := hcells i hi j d hd
            exact ⟨u, h1, h2, made_pv hI hm' h3⟩
          · simp only [TV, AV, CV]
            exact ⟨wd', cap + m, app f cap g, _, cap', by simp [Ctx.made], by omega, rfl, hc1, .inr ⟨c.w.heap.size, by simp [Ctx.made], by simp, cs, e, hm'.new, by simpa using hc2⟩⟩
    · rename_i id off len hadj
      split at h <;> try cases h
      rename_i wd' n f ho
      cases hc : (Nat.beq wd' wd && Nat.beq off 0 && freeB c.H id) with
      | false => rw [hc] at h; cases h
      | true =>
        simp only [hc, cond_true, Option.some.injEq, Prod.mk.injEq] at h
        obtain ⟨rfl, rfl, rfl, rfl⟩ := h
        simp only [Bool.and_eq_true] at hc
        obtain rfl := Nat.eq_of_beq_eq_true hc.1.1
        obtain rfl := Nat.eq_of_beq_eq_true hc.1.2
        have hown := free_own hI ho (by simp) hc.2
        have b2 : (len + m) * by_ ≤ 140737488355328 := by simpa using hb _ (List.mem_singleton.2 rfl)
        rw [hadj] at hs'
        obtain ⟨a, cap, gv, hS0⟩ := src_ok hI (x := .asl id 0 len) (by simp only [srcD, ho]; rfl) hs'
        have hS : Src c vs wd' len f a cap gv := hS0.congr fun i _ => by rw [Nat.zero_add]
        have hid : id < c.H.length := (List.getElem?_eq_some_iff.1 ho).1
        obtain ⟨hwl, hob⟩ := hI.obj id _ ho
        have hlen : len ≤ n ∧ (cap = 0 ∨ ∃ b, c.mu id = some b ∧ a = some ⟨b, 0, none⟩ ∧ Room c.w b (cap * wd')) := by
          have h1 := hs'
          simp only [TV, AV, CV] at h1
          obtain ⟨wd2, n2, f2, a2, cap2, ho2, hl2, hv2, hc2, hor⟩ := h1
          rw [ho] at ho2
          cases ho2
          have h2 := hS.val
          rw [hv2] at h2
          cases h2
          refine ⟨by omega, hor.imp (fun x => x) ?_⟩
          rintro ⟨b, h3, h4, h5⟩
          exact ⟨b, h3, by simpa using h4, by simpa using h5⟩
        rcases Nat.eq_zero_or_pos m with hm | hm
        · subst hm
          obtain rfl := hS.val
          obtain rfl := hX.val
          have hr := append_zero (ty := ty) hE c.w a len cap hS.le xa xc
          have hredo : Redo c id (c.mu id) c.w := ⟨rfl, rfl, rfl, Nat.le_refl _, fun _ _ _ => rfl, fun b hb => ⟨(hI.loc id b hb).2.1, .inl hb⟩⟩
          refine ⟨.slice a len cap, c.redo id (.arr wd' (len + 0) (app f len g)) (c.mu id) c.w, .inl (by simp [hr, Ctx.redo]), redo_inv hI hown hredo hid _ _ _ ?_, rfl, fun u e h => redo_tv hI hredo h, ?_⟩
          · refine ⟨app_len hS.len hX.len, ?_⟩
            rcases hob with ⟨h0, hn0⟩ | ⟨b, cs, T, hbm, hh, hn, hvs⟩
            · exact .inl ⟨h0, by omega⟩
            · refine .inr ⟨b, cs, T, hbm, hh, Nat.le_trans (Nat.mul_le_mul_right _ (by omega)) hn, fun i hi j d hd => ?_⟩
              have hlt : Nat.blt i len = true := Nat.ble_eq_true_of_le (by omega)
              simp only [app, hlt, cond_true] at hd
              exact hvs i (by omega) j d hd
          · simp only [TV, AV, CV]
            refine ⟨wd', len + 0, app f len g, a, cap, by simp [Ctx.redo, hid, purgeO], by omega, rfl, hS.le, hlen.2.imp (fun x => x) ?_⟩
            rintro ⟨b, h3, h4, h5⟩
            exact ⟨b, by simp [Ctx.redo, h3], by simpa using h4, by rw [Nat.zero_add]; exact h5⟩
        · have h63 : len + m ≤ 9223372036854775807 := by
            have := Nat.le_mul_of_pos_right (len + m) hbp
            omega
          by_cases hroom : len + m ≤ cap
          · rcases hlen.2 with h0 | ⟨b, hmu, rfl, cs, T, hh, hcs⟩
            · omega
            obtain ⟨bx, ox, rfl, hxc⟩ := hX.cell hm
            obtain rfl := hS.val
            obtain rfl := hX.val
            rcases hob with ⟨h0, _⟩ | ⟨b', cs', T', hb', hh', hn, hvs⟩
            · rw [hmu] at h0; cases h0
            rw [hmu] at hb'
            cases hb'
            rw [hh] at hh'
            cases hh'
            have hnews := flat_cells hxc
            have hone := flat_one hX.one
            have hfit : len * wd' + (flat wd' m hv).length ≤ cs.size := by
              rw [flat_len, ← Nat.add_mul]
              exact Nat.le_trans (Nat.mul_le_mul_right _ hroom) hcs
            have hr := append_room (ty := ty) hE c.w b len cap cs T hh ⟨bx, ox, none⟩ m xc (flat wd' m hv) (flat_len _ _ _) hnews hone hroom hfit
            have hredo : Redo c id (some b) (c.w.setRow b (splV cs (flat wd' m hv) (len * wd'))) :=
              ⟨rfl, rfl, rfl, by simp, fun k _ hne => setRow_other _ _ _ _ fun e => hne (by rw [e]; exact hmu), fun k hk => by cases hk; exact ⟨by simpa using (hI.loc id b hmu).2.1, .inl hmu⟩⟩
            refine ⟨.slice (some ⟨b, 0, none⟩) (len + m) cap, c.redo id (.arr wd' (len + m) (app f len g)) (some b) _, .inl (by simp [hr, Ctx.redo]), redo_inv hI hown hredo hid _ _ _ ?_, rfl, fun u e h => redo_tv hI hredo h, ?_⟩
            · refine ⟨app_len hS.len hX.len, .inr ⟨b, _, T, rfl, setRow_heap _ _ _ _ _ _ hh, by rw [splV_size hfit]; exact Nat.le_trans (Nat.mul_le_mul_right _ hroom) hcs, fun i hi j d hd => ?_⟩⟩
              rw [splV_get hfit, flat_len]
              unfold app at hd
              cases hlt : Nat.blt i len with
              | true =>
                have hlt' := blt_true hlt
                simp only [hlt, cond_true] at hd
                have hj : j < wd' := by rw [← hwl i (by omega)]; exact (List.getElem?_eq_some_iff.1 hd).1
                have hb1 := ij_lt hlt' hj
                rw [if_neg (by omega)]
                obtain ⟨u, h1, h2, h3⟩ := hvs i (by omega) j d hd
                exact ⟨u, h1, h2, redo_pv hI hredo h3⟩
              | false =>
                have hge := blt_false hlt
                simp only [hlt, cond_false] at hd
                have hlt' : i - len < m := by omega
                have hj : j < wd' := by rw [← hX.len _ hlt']; exact (List.getElem?_eq_some_iff.1 hd).1
                have hb1 := ij_lt hlt' hj
                have e1 : i * wd' = len * wd' + (i - len) * wd' := by rw [← Nat.add_mul]; congr 1; omega
                rw [if_pos (by omega)]
                refine ⟨hv (i - len) j, ?_, hX.one _ hlt' j hj, redo_pv hI hredo (hX.pv _ hlt' j d hd)⟩
                rw [show i * wd' + j - len * wd' = (i - len) * wd' + j by omega]
                exact flat_get hlt' hj
            · simp only [TV, AV, CV]
              refine ⟨wd', len + m, app f len g, _, cap, by simp [Ctx.redo, hid, purgeO], by omega, rfl, hroom, .inr ⟨b, by simp [Ctx.redo], by simp, _, T, setRow_heap _ _ _ _ _ _ hh, ?_⟩⟩
              rw [splV_size hfit, Nat.zero_add]
              exact hcs
          · obtain ⟨cs, w', cap', hr, hm', hc1, hc2, hcells⟩ := append_grow (ty := ty) hE hS hX hm (by omega) (fun ha => by
              rcases hlen.2 with h0 | ⟨b, _, h4, _⟩
              · exact h0
              · rw [ha] at h4; cases h4) b2 h63
            have hredo : Redo c id (some c.w.heap.size) w' := ⟨hm'.below.os, hm'.below.tape, hm'.below.output, hm'.below.size, fun k hk _ => hm'.below.block k hk, fun b hb => by cases hb; exact ⟨by rw [hm'.size]; omega, .inr (Nat.le_refl _)⟩⟩
            refine ⟨.slice (some ⟨c.w.heap.size, 0, none⟩) (len + m) cap', c.redo id (.arr wd' (len + m) (app f len g)) (some c.w.heap.size) w', .inl (by simp [hr, Ctx.redo]), redo_inv hI hown hredo hid _ _ _ ?_, rfl, fun u e h => redo_tv hI hredo h, ?_⟩
            · refine ⟨app_len hS.len hX.len, .inr ⟨_, cs, e, rfl, hm'.new, Nat.le_trans (Nat.mul_le_mul_right _ hc1) hc2, fun i hi j d hd => ?_⟩⟩
              obtain ⟨u, h1, h2, h3⟩ := hcells i hi j d hd
              exact ⟨u, h1, h2, redo_pv hI hredo h3⟩
            · simp only [TV, AV, CV]
              exact ⟨wd', len + m, app f len g, _, cap', by simp [Ctx.redo, hid, purgeO], by omega, rfl, hc1, .inr ⟨c.w.heap.size, by simp [Ctx.redo], by simp, cs, e, hm'.new, by simpa using hc2⟩⟩
    · cases h
end Nv
