/- Regions that draw their order, with allocations that stand in no order with what comes before the stores. -/
import Derived.Test.YtmangnohekiphaaNvDraw5
namespace Nv
open Go Go.RowKit

def okT (n : Nat) : D → Bool
  | .opt _ _ _ => false
  | d => blT n d
def ngone : Ob → Bool
  | .gone => false
  | _ => true
def V1 (p0 : Nat) (V : Nat → D) (i : Nat) : D := if i < p0 then V i else .any

structure FInv (F : Fr) (nt : Nat) (ops : Array Oper) (H0 : List Ob) (p0 p : Nat) (zs : Nat → List D) (V : Nat → D) (env0 : List (Nat × D)) (listed : Array Bool) (a : Act) (c : Ctx) : Prop where
  H : ∃ X, c.H = H0 ++ X ∧ X.all ngone = true
  inv : Inv F c
  env : ∀ t, GV (yielded ops a.tmps) c (a.tmps.getD t undef) (valL ops (V1 p0 V) env0 (fun i => listed.getD i false = true) t)
  fl : ∃ fid : Nat → Nat, (∀ k, p0 ≤ k → k < p → listed.getD k false = true → H0.length ≤ fid k ∧ c.H[fid k]? = some (.box (zs k)) ∧ ∀ t, (ops[k]?).bind (·.dst) = some t → TV c (a.tmps.getD t undef) (.ref (fid k) 0)) ∧
    ∀ k l, p0 ≤ k → k < p → p0 ≤ l → l < p → listed.getD k false = true → listed.getD l false = true → fid k = fid l → k = l
  size : a.tmps.size = nt
  defers : a.defers = []
  opt : ∀ t j w d, valL ops (V1 p0 V) env0 (fun i => listed.getD i false = true) t = .opt j w d → listed.getD j false = true
  lsize : listed.size = ops.size
  closed : ∀ i j, Waits ops i j → listed.getD i false = true → listed.getD j false = true
  low : ∀ j, p ≤ j → listed.getD j false = false

theorem tv_cut {c : Ctx} {F : Fr} {n : Nat} {v : Value} {d : D} (h : TV c v d) (hb : blT n d = true) : TV (c.cut n) v d := cut_tv h hb

/-- The allocations' objects, in the text's order. -/
theorem floats_in {F : Fr} {nt : Nat} {ops : Array Oper} {H0 : List Ob} {p0 p : Nat} {zs : Nat → List D} {V : Nat → D} {env0 : List (Nat × D)} {listed : Array Bool} {a : Act} {c : Ctx} {HH : Nat → List Ob}
    (hD : FInv F nt ops H0 p0 p zs V env0 listed a c) (hall : ∀ j, j < p → listed.getD j false = true) (hH0 : HH p0 = H0) (hHs : ∀ k, p0 ≤ k → k < p → HH (k + 1) = HH k ++ [.box (zs k)])
    (hV : ∀ k, p0 ≤ k → k < p → V k = .ref (H0.length + (k - p0)) 0) (hbl : H0.all (blO H0.length) = true) (hzs : ∀ k, p0 ≤ k → k < p → (zs k).all (blC H0.length) = true)
    (fid : Nat → Nat) (hf1 : ∀ k, p0 ≤ k → k < p → listed.getD k false = true → H0.length ≤ fid k ∧ c.H[fid k]? = some (.box (zs k)) ∧ ∀ t, (ops[k]?).bind (·.dst) = some t → TV c (a.tmps.getD t undef) (.ref (fid k) 0))
    (hf2 : ∀ k l, p0 ≤ k → k < p → p0 ≤ l → l < p → listed.getD k false = true → listed.getD l false = true → fid k = fid l → k = l) :
    ∀ j, p0 + j ≤ p → ∃ d : Ctx, d.w = c.w ∧ d.I = c.I ∧ Inv F d ∧ d.H = HH (p0 + j) ∧ d.H.length = H0.length + j ∧ (∀ v e, TV c v e → blT H0.length e = true → TV d v e) ∧ (∀ v e, CV c v e → blC H0.length e = true → CV d v e) ∧
      (∀ k, p0 ≤ k → k < p0 + j → ∀ t, (ops[k]?).bind (·.dst) = some t → TV d (a.tmps.getD t undef) (V k)) ∧
      (∀ id b, d.mu id = some b → (id < H0.length ∧ c.mu id = some b) ∨ ∃ k, p0 ≤ k ∧ k < p0 + j ∧ c.mu (fid k) = some b)
  | 0, _ => by
    obtain ⟨X, hX, hXg⟩ := hD.H
    refine ⟨c.cut H0.length, rfl, rfl, cut_inv hD.inv ?_ ?_, ?_, ?_, fun v e h hb => cut_tv h hb, fun v e h hb => cut_cv h hb, fun k h1 h2 => by omega, fun id b h => ?_⟩
    · rw [hX, List.take_left]; exact hbl
    · rw [hX, List.drop_left]; exact hXg
    · show c.H.take H0.length = _
      rw [hX, List.take_left, Nat.add_zero, hH0]
    · show (c.H.take H0.length).length = _
      rw [hX, List.take_left]; rfl
    · have h : (if id < H0.length then c.mu id else none) = some b := h
      split at h
      · exact .inl ⟨by assumption, h⟩
      · cases h
  | j + 1, hj => by
    obtain ⟨d, hw, hIe, hI, hH, hlen, htv, hcv, hfl, hmu⟩ := floats_in hD hall hH0 hHs hV hbl hzs fid hf1 hf2 j (by omega)
    have hk1 : p0 ≤ p0 + j := by omega
    have hk2 : p0 + j < p := by omega
    obtain ⟨g1, g2, g3⟩ := hf1 (p0 + j) hk1 hk2 (hall _ hk2)
    obtain ⟨b, cs, T, hb, hcs, hvs⟩ := hD.inv.obj _ _ g2
    obtain ⟨l1, l2, l3⟩ := hD.inv.loc _ b hb
    have hne : ∀ id, d.mu id ≠ some b := fun id h => by
      rcases hmu id b h with ⟨h1, h2⟩ | ⟨k, h1, h2, h3⟩
      · have := hD.inv.inj id _ b h2 hb
        omega
      · have := hf2 k (p0 + j) h1 (by omega) hk1 hk2 (hall _ (by omega)) (hall _ hk2) (hD.inv.inj _ _ b h3 hb)
        omega
    have hz := hzs (p0 + j) hk1 hk2
    have hI' : Inv F (d.add (.box (zs (p0 + j))) b) := add_inv hI (by rw [hw]; exact l2) l1 (by rw [hIe]; exact l3) hne ⟨cs, T, by rw [hw]; exact hcs, hvs.1, fun i v e h1 h2 => hcv v e (hvs.2 i v e h1 h2) (List.all_eq_true.1 hz e (List.mem_of_getElem? h2))⟩
    refine ⟨d.add (.box (zs (p0 + j))) b, hw, hIe, hI', ?_, ?_, fun v e h hb' => add_tv hI (htv v e h hb'), fun v e h hb' => add_cv hI (hcv v e h hb'), fun k h1 h2 t ht => ?_, fun id b' h => ?_⟩
    · show d.H ++ [_] = _
      rw [hH, ← Nat.add_assoc, hHs _ hk1 hk2]
    · show (d.H ++ [_]).length = _
      simp [hlen]; omega
    · rcases Nat.lt_or_ge k (p0 + j) with h3 | h3
      · exact add_tv hI (hfl k h1 h3 t ht)
      · have : k = p0 + j := by omega
        subst this
        have h4 := g3 t ht
        rw [hV _ hk1 hk2]
        simp only [TV, AV, CV] at h4 ⊢
        obtain ⟨b', h5, h6⟩ := h4
        rw [hb] at h5
        cases h5
        refine ⟨b, ?_, h6⟩
        show (if H0.length + (p0 + j - p0) = d.H.length then some b else _) = some b
        rw [if_pos (by omega)]
    · have h : (if id = d.H.length then some b else d.mu id) = some b' := h
      split at h
      · cases h
        exact .inr ⟨p0 + j, hk1, by omega, hb⟩
      · rcases hmu id b' h with h1 | ⟨k, h1, h2, h3⟩
        · exact .inl h1
        · exact .inr ⟨k, h1, by omega, h3⟩

theorem float_in {P : Program} {F : Fr} {nt : Nat} {ops : Array Oper} {H0 : List Ob} {p0 p : Nat} {zs : Nat → List D} {bs : List Bool} {rq : List Req} {E : Nat → List (Nat × D)} {HH : Nat → List Ob} {V : Nat → D} {listed : Array Bool} {a : Act} {c : Ctx}
    (hnd : dstsB ops = true) (hp : p0 ≤ p) (hpn : p ≤ ops.size) (hT : TraceW P nt ops bs rq 0 ops.size E HH V)
    (hD : FInv F nt ops H0 p0 p zs V (E 0) listed a c) (hall : ∀ j, j < p → listed.getD j false = true) (hH0 : HH p0 = H0) (hHs : ∀ k, p0 ≤ k → k < p → HH (k + 1) = HH k ++ [.box (zs k)])
    (hV : ∀ k, p0 ≤ k → k < p → V k = .ref (H0.length + (k - p0)) 0) (hbl : H0.all (blO H0.length) = true) (hzs : ∀ k, p0 ≤ k → k < p → (zs k).all (blC H0.length) = true)
    (hnw : ∀ k o, ops[k]? = some o → k < p0 → wrB o.op = false) (hok : ∀ t, okT H0.length (find (E p0) t) = true) :
    ∃ c', c'.w = c.w ∧ DWInv F nt ops HH V (E 0) listed a c' := by
  obtain ⟨fid, hf1, hf2⟩ := hD.fl
  obtain ⟨d, hw, hIe, hI, hH, _, htv, _, hfl, _⟩ := floats_in hD hall hH0 hHs hV hbl hzs fid hf1 hf2 (p - p0) (by omega)
  rw [show p0 + (p - p0) = p by omega] at hH hfl
  have hlist : ∀ i, listed.getD i false = true ↔ i < p := fun i => by
    refine ⟨fun h => ?_, hall i⟩
    rcases Nat.lt_or_ge i p with h1 | h1
    · exact h1
    · rw [hD.low i h1] at h; cases h
  -- the values of the slots
  have hcase : ∀ t, (∃ k, p0 ≤ k ∧ k < p ∧ (ops[k]?).bind (·.dst) = some t ∧ valL ops V (E 0) (fun i => listed.getD i false = true) t = V k) ∨
      (valL ops V (E 0) (fun i => listed.getD i false = true) t = find (E p0) t ∧ valL ops (V1 p0 V) (E 0) (fun i => listed.getD i false = true) t = find (E p0) t) := fun t => by
    by_cases hx : ∃ k, (ops[k]?).bind (·.dst) = some t ∧ k < p
    · obtain ⟨k, hk, hkp⟩ := hx
      rcases Nat.lt_or_ge k p0 with h1 | h1
      · right
        have e1 : find (E p0) t = V k := by rw [env_valW hnd hT p0 (by omega) t, valL_some hnd hk (show k < p0 from h1)]
        rw [e1, valL_some hnd hk ((hlist k).2 hkp), valL_some hnd hk ((hlist k).2 hkp)]
        exact ⟨rfl, by simp [V1, h1]⟩
      · exact .inl ⟨k, h1, hkp, hk, valL_some hnd hk ((hlist k).2 hkp)⟩
    · right
      have hn : ∀ i, (ops[i]?).bind (·.dst) = some t → ¬ listed.getD i false = true := fun i hi h => hx ⟨i, hi, (hlist i).1 h⟩
      rw [valL_none hn, valL_none hn, env_valW hnd hT p0 (by omega) t, valL_none (fun i hi h => hx ⟨i, hi, by omega⟩)]
      exact ⟨rfl, rfl⟩
  refine ⟨d, hw, ⟨p, hpn, hH, fun w o ho hwr h => (hlist w).2 h, fun w o ho hwr h => hD.low w h⟩, hI, fun t => ?_, hD.size, hD.defers, fun t j w e he => ?_, hD.lsize, hD.closed⟩
  · rcases hcase t with ⟨k, h1, h2, h3, h4⟩ | ⟨h1, h2⟩
    · rw [h4]
      exact gv_of_tv (hfl k h1 h2 t h3)
    · rw [h1]
      have h3 := hD.env t
      rw [h2] at h3
      have h4 := hok t
      generalize find (E p0) t = e at h3 h4
      cases e <;> simp only [okT] at h4 <;> first | (cases h4; done) | exact gv_of_tv (htv _ _ h3 h4)
  · rcases hcase t with ⟨k, h1, h2, h3, h4⟩ | ⟨h1, _⟩
    · rw [h4, hV k h1 h2] at he; cases he
    · have h4 := hok t
      rw [← h1, he] at h4
      cases h4
end Nv
