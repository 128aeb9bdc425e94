/- append. -/
import Derived.Test.YtmangnohekiphaaNvHeap3
namespace Nv
open Go Go.RowKit

def flat (sz m : Nat) (gv : Nat → Nat → Value) : List Value := (List.range (m * sz)).map fun q => gv (q / sz) (q % sz)
theorem flat_len (sz m : Nat) (gv : Nat → Nat → Value) : (flat sz m gv).length = m * sz := by simp [flat]
theorem ij_lt {sz m i j : Nat} (hi : i < m) (hj : j < sz) : i * sz + j < m * sz := by
  have := Nat.mul_le_mul_right sz (show i + 1 ≤ m by omega)
  rw [Nat.succ_mul] at this
  omega
theorem flat_get {sz m : Nat} {gv : Nat → Nat → Value} {i j : Nat} (hi : i < m) (hj : j < sz) : (flat sz m gv)[i * sz + j]? = some (gv i j) := by
  have h1 := ij_lt hi hj
  have h2 : (i * sz + j) / sz = i := by rw [Nat.mul_comm, Nat.mul_add_div (by omega)]; simp [Nat.div_eq_of_lt hj]
  have h3 : (i * sz + j) % sz = j := by rw [Nat.mul_comm, Nat.mul_add_mod]; exact Nat.mod_eq_of_lt hj
  simp [flat, h1, h2, h3]
theorem flat_idx {sz m q : Nat} (h : q < m * sz) : q / sz < m ∧ q % sz < sz := by
  have h0 : 0 < sz := by rcases Nat.eq_zero_or_pos sz with h1 | h1; · subst h1; simp at h
                         · exact h1
  exact ⟨(Nat.div_lt_iff_lt_mul h0).2 h, Nat.mod_lt _ h0⟩
theorem flat_one {sz m : Nat} {gv : Nat → Nat → Value} (h : ∀ i, i < m → ∀ j, j < sz → (gv i j).oneCell' = true) : ∀ v ∈ flat sz m gv, v.oneCell' = true := by
  intro v hv
  simp only [flat, List.mem_map, List.mem_range] at hv
  obtain ⟨q, hq, rfl⟩ := hv
  exact h _ (flat_idx hq).1 _ (flat_idx hq).2
theorem flat_cells {w : World} {b off sz m : Nat} {gv : Nat → Nat → Value} (h : ∀ i, i < m → ∀ j, j < sz → w.cell? ⟨b, off + i * sz + j, none⟩ = some (gv i j)) :
    ∀ (q : Nat) (v : Value), (flat sz m gv)[q]? = some v → w.cell? (Addr.add ⟨b, off, none⟩ q) = some v := by
  intro q v hq
  have hlt : q < m * sz := by rw [← flat_len sz m gv]; exact (List.getElem?_eq_some_iff.1 hq).1
  simp [flat, hlt] at hq
  subst hq
  have := h _ (flat_idx hlt).1 _ (flat_idx hlt).2
  rw [add_zero_addr]
  rw [show off + q = off + q / sz * sz + q % sz by have := Nat.div_add_mod q sz; rw [Nat.mul_comm] at this; omega]
  exact this

def srcD (H : List Ob) : D → Option (Nat × Nat × (Nat → List D))
  | .sl _ wd m g => some (wd, m, g)
  | .asl id off m => match H[id]? with
    | some (.arr wd _ f) => some (wd, m, fun i => f (off + i))
    | _ => none
  | _ => none

structure Src (c : Ctx) (v : Value) (wd m : Nat) (g : Nat → List D) (a : Option Addr) (cap : Nat) (gv : Nat → Nat → Value) : Prop where
  val : v = .slice a m cap
  le : m ≤ cap
  cell : 0 < m → ∃ b off, a = some ⟨b, off, none⟩ ∧ ∀ i, i < m → ∀ j, j < wd → c.w.cell? ⟨b, off + i * wd + j, none⟩ = some (gv i j)
  len : ∀ i, i < m → (g i).length = wd
  one : ∀ i, i < m → ∀ j, j < wd → (gv i j).oneCell' = true
  pv : ∀ i, i < m → ∀ (j : Nat) (d : D), (g i)[j]? = some d → PV c.I c.w (gv i j) d

theorem src_ok {F : Fr} {c : Ctx} (hI : Inv F c) {x : D} {wd m : Nat} {g : Nat → List D} (h : srcD c.H x = some (wd, m, g)) {v : Value} (hv : TV c v x) :
    ∃ a cap gv, Src c v wd m g a cap gv := by
  unfold srcD at h
  split at h
  · simp only [Option.some.injEq, Prod.mk.injEq] at h
    obtain ⟨rfl, rfl, rfl⟩ := h
    simp only [TV, AV, CV] at hv
    cases hv with
    | sl a n cap wd full f g hfull hcap hb hw hone hv =>
      exact ⟨a, cap, g, rfl, hcap, fun hn => let ⟨b, off, ha, _, hc⟩ := hb hn; ⟨b, off, ha, hc⟩, hw, hone, hv⟩
  · rename_i id off mm
    split at h <;> try cases h
    rename_i n f ho
    simp only [TV, AV, CV] at hv
    obtain ⟨wd2, n2, f2, a, cap, ho2, hl, rfl, hcap, hor⟩ := hv
    rw [ho] at ho2
    cases ho2
    obtain ⟨hw, hob⟩ := hI.obj id _ ho
    rcases hob with ⟨h0, hn0⟩ | ⟨b, cs, T, hb, hh, hn, hvs⟩
    · have : m = 0 := by omega
      subst this
      exact ⟨a, cap, fun _ _ => undef, rfl, hcap, fun h => by omega, fun i hi => by omega, fun i hi => by omega, fun i hi => by omega⟩
    · have key : ∀ i, i < m → ∀ j, j < wd → ∃ d, (f (off + i))[j]? = some d := fun i hi j hj => by
        have := hw (off + i) (by omega)
        exact ⟨_, List.getElem?_eq_getElem (by omega)⟩
      have hget : ∀ i, i < m → ∀ j, j < wd → ∃ v, cs[(off + i) * wd + j]? = some v ∧ v.oneCell' = true := fun i hi j hj => by
        obtain ⟨d, hd⟩ := key i hi j hj
        obtain ⟨v, h1, h2, _⟩ := hvs (off + i) (by omega) j d hd
        exact ⟨v, h1, h2⟩
      refine ⟨a, cap, fun i j => cs.getD ((off + i) * wd + j) undef, rfl, hcap, fun hm => ?_, fun i hi => hw _ (by omega), fun i hi j hj => ?_, fun i hi j d hd => ?_⟩
      · rcases hor with h0 | ⟨b', hb', ha, _⟩
        · omega
        · rw [hb] at hb'
          cases hb'
          refine ⟨b, off * wd, ha, fun i hi j hj => ?_⟩
          obtain ⟨v, h1, _⟩ := hget i hi j hj
          rw [show off * wd + i * wd + j = (off + i) * wd + j by rw [Nat.add_mul]]
          simp [World.cell?, hh, h1]
      · obtain ⟨v, h1, h2⟩ := hget i hi j hj
        show (cs.getD ((off + i) * wd + j) undef).oneCell' = true
        rw [show cs.getD ((off + i) * wd + j) undef = v by simp [h1]]
        exact h2
      · obtain ⟨v, h1, _, h3⟩ := hvs (off + i) (by omega) j d hd
        show PV c.I c.w (cs.getD ((off + i) * wd + j) undef) d
        rw [show cs.getD ((off + i) * wd + j) undef = v by simp [h1]]
        exact h3
  · cases h

/-- What the element type's row of the table says. -/
structure Elem (P : Program) (t e : TypeId) (sz by_ : Nat) (i : TypeInfo) (z : Value) : Prop where
  ut : P.underlying t = some (.slice e)
  info : P.info? e = some i
  zero : i.zero = some z
  size : i.size = sz
  bytes : i.bytes = by_
  zsize : z.cells.size = sz

def elemD (P : Program) (t : TypeId) : Option (Nat × Nat) :=
  match P.underlying t with
  | some (.slice e) => match szO P e, zeroD P e, bytesO P e with
    | some (sz + 1), some zs, some (by_ + 1) => bif Nat.beq zs.length (sz + 1) then some (sz + 1, by_ + 1) else none
    | _, _, _ => none
  | _ => none
theorem elemD_ok {P : Program} {t : TypeId} {sz by_ : Nat} (h : elemD P t = some (sz, by_)) : 0 < sz ∧ 0 < by_ ∧ ∃ e i z, Elem P t e sz by_ i z := by
  unfold elemD at h
  split at h <;> try cases h
  rename_i e hu
  split at h <;> try cases h
  rename_i s zs b hs hz hb
  cases hc : Nat.beq zs.length (s + 1) with
  | false => simp [hc] at h
  | true =>
    simp only [hc, cond_true, Option.some.injEq, Prod.mk.injEq] at h
    obtain ⟨rfl, rfl⟩ := h
    have hzl := Nat.eq_of_beq_eq_true hc
    unfold szO at hs
    unfold bytesO at hb
    unfold zeroD at hz
    obtain ⟨i, hi, hsz⟩ := Option.map_eq_some_iff.1 hs
    obtain ⟨z, hz1, hz2⟩ := Option.map_eq_some_iff.1 hz
    simp only [hi, Option.map_some, Option.some.injEq] at hb
    simp only [hi, Option.bind_some] at hz1
    refine ⟨Nat.succ_pos _, Nat.succ_pos _, e, i, z, hu, hi, hz1, hsz, hb, ?_⟩
    rw [← hzl, ← hz2]
    simp [zipAdj_len]

theorem blt_true {i n : Nat} : Nat.blt i n = true → i < n := fun h => Nat.le_of_ble_eq_true h
theorem blt_false {i n : Nat} (h : Nat.blt i n = false) : n ≤ i := by
  rcases Nat.lt_or_ge i n with h1 | h1
  · rw [show Nat.blt i n = true from Nat.ble_eq_true_of_le h1] at h; cases h
  · exact h1

def app (f : Nat → List D) (n : Nat) (g : Nat → List D) (i : Nat) : List D := bif Nat.blt i n then f i else g (i - n)

section
variable {P : Program} {c : Ctx} {t ty e : TypeId} {sz by_ : Nat} {ti : TypeInfo} {z : Value}

theorem append_zero (hE : Elem P t e sz by_ ti z) (w : World) (a : Option Addr) (n cap : Nat) (hn : n ≤ cap) (x : Option Addr) (xc : Nat) :
    (Builtin.append_ #[t, t] ty #[.slice a n cap, .slice x 0 xc]).run P w = .ok (.slice a n cap) w := by
  cases a <;> cases x <;> simp [Builtin.append_, run_underlying hE.ut, Go.sizeOf, typeInfo, hE.info, Builtin.lenOf, hn, Builtin.firstCells, loadCells, loadCellsFrom, storeCells]

/-- It grows: a new block. -/
theorem append_grow (hE : Elem P t e sz by_ ti z) {v vx : Value} {n m cap xc : Nat} {f g : Nat → List D} {a x : Option Addr} {gv hv : Nat → Nat → Value}
    (hs : Src c v sz n f a cap gv) (hx : Src c vx sz m g x xc hv) (hm : 0 < m) (hg : cap < n + m) (hn : a = none → cap = 0) (hby : (n + m) * by_ ≤ 140737488355328) (h63 : n + m ≤ 9223372036854775807) :
    ∃ cs w' cap', (Builtin.append_ #[t, t] ty #[v, vx]).run P c.w = .ok (.slice (some ⟨c.w.heap.size, 0, none⟩) (n + m) cap') w' ∧ More c.w w' cs e ∧ n + m ≤ cap' ∧ cap' * sz ≤ cs.size ∧
      ∀ i, i < n + m → ∀ j d, (app f n g i)[j]? = some d → ∃ u, cs[i * sz + j]? = some u ∧ u.oneCell' = true ∧ PV c.I c.w u d := by
  obtain ⟨bx, ox, rfl, hxc⟩ := hx.cell hm
  have hnews := flat_cells hxc
  obtain rfl := hs.val
  obtain rfl := hx.val
  have hsz := hE.size
  have hlx : (flat sz m hv).length = m * ti.size := by rw [flat_len, hsz]
  have hfits : Builtin.nextslicecap (n + m) cap * ti.bytes ≤ 281474976710656 := growslice_fits hg (by rw [hE.bytes]; exact hby)
  have hlast : ∀ (news : Array Value), news = (flat sz n gv).toArray ++ (flat sz m hv).toArray → ∀ (rest : Array Value), ∀ i, i < n + m → ∀ j d, (app f n g i)[j]? = some d → ∃ u, (news ++ rest)[i * sz + j]? = some u ∧ u.oneCell' = true ∧ PV c.I c.w u d := by
    intro news hnews rest i hi j d hd
    subst hnews
    unfold app at hd
    cases hlt : Nat.blt i n with
    | true =>
      have hlt' : i < n := blt_true hlt
      simp only [hlt, cond_true] at hd
      have hj : j < sz := by rw [← hs.len i hlt']; exact (List.getElem?_eq_some_iff.1 hd).1
      refine ⟨gv i j, ?_, hs.one i hlt' j hj, hs.pv i hlt' j d hd⟩
      have hb := ij_lt hlt' hj
      rw [Array.getElem?_append_left (by simp [flat_len]; omega), Array.getElem?_append_left (by simp [flat_len]; omega)]
      simpa using flat_get hlt' hj
    | false =>
      have hge : n ≤ i := blt_false hlt
      simp only [hlt, cond_false] at hd
      have hlt' : i - n < m := by omega
      have hj : j < sz := by rw [← hx.len _ hlt']; exact (List.getElem?_eq_some_iff.1 hd).1
      refine ⟨hv (i - n) j, ?_, hx.one _ hlt' j hj, hx.pv _ hlt' j d hd⟩
      have hb := ij_lt hlt' hj
      have e1 : i * sz = n * sz + (i - n) * sz := by rw [← Nat.add_mul]; congr 1; omega
      rw [Array.getElem?_append_left (by simp [flat_len]; omega), Array.getElem?_append_right (by simp [flat_len]; omega)]
      simp only [List.size_toArray, flat_len, List.getElem?_toArray]
      rw [show i * sz + j - n * sz = (i - n) * sz + j by omega]
      exact flat_get hlt' hj
  cases ha : a with
  | none =>
    obtain rfl := hn ha
    subst ha
    have hn0 : n = 0 := by have := hs.le; omega
    subst hn0
    have hr := run_append_nil (P := P) c.w t ty e ti z hE.ut hE.info hE.zero ⟨bx, ox, none⟩ m xc (flat sz m hv) hlx hnews hm (by omega) (by rw [hE.bytes]; simp only [Nat.zero_add] at hby; omega)
    refine ⟨_, _, _, by rw [Nat.zero_add]; exact hr, more_drew c.w _ _, ?_, ?_, ?_⟩
    · rw [Nat.zero_add]; exact grownCap_ge _ _ _ _
    · have hge := grownCap_ge c.w m 0 e
      simp only [Array.size_append, List.size_toArray, flat_len, size_zeroCells, hE.zsize, ← Nat.add_mul]
      exact Nat.mul_le_mul_right _ (by omega)
    · have := hlast ((flat sz m hv).toArray) (by simp [flat]) (Builtin.zeroCells z.cells (grownCap c.w m 0 e - m))
      exact this
  | some b =>
    subst ha
    have holds : ∀ (j : Nat) (u : Value), (flat sz n gv)[j]? = some u → c.w.cell? (b.add j) = some u := by
      intro j u hj
      have hlt : j < n * sz := by rw [← flat_len sz n gv]; exact (List.getElem?_eq_some_iff.1 hj).1
      have hn0 : 0 < n := by rcases Nat.eq_zero_or_pos n with h | h; · subst h; simp at hlt
                             · exact h
      obtain ⟨b', o', hb', hc'⟩ := hs.cell hn0
      cases hb'
      exact flat_cells hc' j u hj
    have hr := run_append_grow (P := P) c.w t ty e ti z hE.ut hE.info hE.zero b n cap (flat sz n gv) (by rw [flat_len, hsz]) holds ⟨bx, ox, none⟩ m xc (flat sz m hv) hlx hnews hg (by omega) hfits
    refine ⟨_, _, _, hr, more_drew c.w _ _, grownCap_ge _ _ _ _, ?_, hlast _ rfl _⟩
    have hge := grownCap_ge c.w (n + m) cap e
    simp only [Array.size_append, List.size_toArray, flat_len, size_zeroCells, hE.zsize, ← Nat.add_mul]
    exact Nat.mul_le_mul_right _ (by omega)
end
end Nv
