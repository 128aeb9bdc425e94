/- The reference's Normalize returns the canonical list. No condition. -/
import Derived.Test.YtpggnodnpjejlaaDoorNvI1
namespace Nv
open Go
theorem igetD_mem' {l : List TInterval} {i : Nat} (hi : i < l.length) : l.getD i default ∈ l := by rw [List.getD_eq_getElem?_getD, List.getElem?_eq_getElem hi]; exact List.getElem_mem hi
theorem imem_at {l : List TInterval} {y : Int} : imem l y ↔ ∃ i, i < l.length ∧ (l.getD i default).fLo ≤ y ∧ y ≤ (l.getD i default).fHi := by
  constructor
  · rintro ⟨j, hj, h⟩
    obtain ⟨i, hi, rfl⟩ := List.getElem_of_mem hj
    exact ⟨i, hi, by simpa [hi] using h⟩
  · rintro ⟨i, hi, h⟩
    exact ⟨_, igetD_mem' hi, h⟩
theorem r_l2 {l : List TInterval} (hl : l.length ≤ 1000000) (hu : ∀ t ∈ l, U32 t) {out : List TInterval} {n : Int} (hn : 0 ≤ n ∧ n ≤ 4294967296) : ∀ (k i : Nat) (b : Int), i + k = l.length → 0 ≤ b → b ≤ 4294967296 →
    ∃ b', Iter (M.ref4_Normalize_l2 l (out, n)) (b, (i : Int)) b' ∧ 0 ≤ b' ∧ b' ≤ b ∧ (b' = b ∨ (n ≤ b' ∧ imem l b')) ∧ ∀ j, i ≤ j → j < l.length → ∀ y, n ≤ y → (l.getD j default).fLo ≤ y → y ≤ (l.getD j default).fHi → b' ≤ y := by
  intro k
  induction k with
  | zero =>
    intro i b h1 h2 h3
    refine ⟨b, .out ?_, h2, Int.le_refl _, .inl rfl, fun j h4 h5 => by omega⟩
    unfold M.ref4_Normalize_l2
    simp only
    rw [show decide ((i : Int) < (l.length : Int)) = false by simp; omega]; rfl
  | succ k ih =>
    intro i b h1 h2 h3
    have hi : i < l.length := by omega
    have hx := hu _ (igetD_mem' hi)
    unfold U32 at hx
    have hup : wr .i64 ((i : Int) + 1) = ((i + 1 : Nat) : Int) := by rw [wrN (by omega) (by omega)]; omega
    have w1 : wr .u64 (l.getD i default).fHi = (l.getD i default).fHi := wrU (by omega) (by omega)
    have w2 : wr .u64 (l.getD i default).fLo = (l.getD i default).fLo := wrU (by omega) (by omega)
    have unf : M.ref4_Normalize_l2 l (out, n) (b, (i : Int)) = bif decide ((l.getD i default).fLo ≤ (l.getD i default).fHi) && decide ((l.getD i default).fHi ≥ n) then
        some (.inl ((if (if n > (l.getD i default).fLo then n else (l.getD i default).fLo) < b then (if n > (l.getD i default).fLo then n else (l.getD i default).fLo) else b), ((i + 1 : Nat) : Int))) else some (.inl (b, ((i + 1 : Nat) : Int))) := by
      unfold M.ref4_Normalize_l2 M.ref4_Normalize_k1
      simp only [Int.toNat_natCast, hup, w1, w2]
      rw [show decide ((i : Int) < (l.length : Int)) = true by simp; omega, cond_true, gdT (by cases decide ((l.getD i default).fLo ≤ (l.getD i default).fHi) <;> simp [guardB] <;> omega)]
      rw [gdT (l := [decide (0 ≤ (i : Int)), true]) (by simp)]
    cases hc : decide ((l.getD i default).fLo ≤ (l.getD i default).fHi) && decide ((l.getD i default).fHi ≥ n) with
    | true =>
      rw [hc] at unf
      simp only [Bool.and_eq_true, decide_eq_true_eq] at hc
      have hm : ∃ m, (if n > (l.getD i default).fLo then n else (l.getD i default).fLo) = m ∧ n ≤ m ∧ (l.getD i default).fLo ≤ m ∧ m ≤ (l.getD i default).fHi ∧ ∀ y, n ≤ y → (l.getD i default).fLo ≤ y → m ≤ y := by
        refine ⟨_, rfl, ?_⟩
        split <;> exact ⟨by omega, by omega, by omega, fun y h1 h2 => by omega⟩
      obtain ⟨m, em, m1, m2, m3, m4⟩ := hm
      rw [em] at unf
      have hb : ∃ b2, (if m < b then m else b) = b2 ∧ b2 ≤ b ∧ b2 ≤ m ∧ (b2 = b ∨ b2 = m) ∧ 0 ≤ b2 := by
        refine ⟨_, rfl, ?_⟩
        split <;> exact ⟨by omega, by omega, by omega, by omega⟩
      obtain ⟨b2, eb, b3, b4, b5, b6⟩ := hb
      rw [eb] at unf
      obtain ⟨b', i1, i2, i3, i4, i5⟩ := ih (i + 1) b2 (by omega) b6 (by omega)
      refine ⟨b', .next unf i1, i2, by omega, ?_, fun j h4 h5 y h6 h7 h8 => ?_⟩
      · rcases i4 with e | e
        · rcases b5 with e2 | e2
          · exact .inl (e.trans e2)
          · exact .inr ⟨by omega, imem_at.2 ⟨i, hi, by omega, by omega⟩⟩
        · exact .inr e
      · by_cases e : j = i
        · subst e; have := m4 y h6 h7; omega
        · exact i5 j (by omega) h5 y h6 h7 h8
    | false =>
      rw [hc] at unf
      obtain ⟨b', i1, i2, i3, i4, i5⟩ := ih (i + 1) b (by omega) h2 h3
      refine ⟨b', .next unf i1, i2, i3, i4, fun j h4 h5 y h6 h7 h8 => ?_⟩
      by_cases e : j = i
      · subst e
        simp only [Bool.and_eq_false_iff, decide_eq_false_iff_not] at hc
        omega
      · exact i5 j (by omega) h5 y h6 h7 h8
theorem r_l4 {l : List TInterval} (hl : l.length ≤ 1000000) (hu : ∀ t ∈ l, U32 t) {s : Int} : ∀ (k i : Nat) (h : Int) (g : Bool), i + k = l.length → 0 ≤ h → h < 4294967296 → s ≤ h → (∀ y, s ≤ y → y ≤ h → imem l y) →
    ∃ h' g', Iter (M.ref4_Normalize_l4 l) (h, g, (i : Int)) (h', g') ∧ h ≤ h' ∧ h' < 4294967296 ∧ (∀ y, s ≤ y → y ≤ h' → imem l y) ∧ (g' = false → g = false ∧ h' = h ∧ ∀ j, i ≤ j → j < l.length → ¬ ((l.getD j default).fLo ≤ (l.getD j default).fHi ∧ (l.getD j default).fLo ≤ h + 1 ∧ (l.getD j default).fHi > h)) ∧ (g' = true → g = true ∨ h < h') := by
  intro k
  induction k with
  | zero =>
    intro i h g h1 h2 h3 h4 h5
    refine ⟨h, g, .out ?_, Int.le_refl _, h3, h5, fun e => ⟨e, rfl, fun j h6 h7 => by omega⟩, fun e => .inl e⟩
    unfold M.ref4_Normalize_l4
    simp only
    rw [show decide ((i : Int) < (l.length : Int)) = false by simp; omega]; rfl
  | succ k ih =>
    intro i h g h1 h2 h3 h4 h5
    have hi : i < l.length := by omega
    have hx := hu _ (igetD_mem' hi)
    unfold U32 at hx
    have hup : wr .i64 ((i : Int) + 1) = ((i + 1 : Nat) : Int) := by rw [wrN (by omega) (by omega)]; omega
    have w1 : wr .u64 (l.getD i default).fHi = (l.getD i default).fHi := wrU (by omega) (by omega)
    have w2 : wr .u64 (l.getD i default).fLo = (l.getD i default).fLo := wrU (by omega) (by omega)
    have w3 : wr .u64 (h + 1) = h + 1 := wrU (by omega) (by omega)
    have unf : M.ref4_Normalize_l4 l (h, g, (i : Int)) = bif (decide ((l.getD i default).fLo ≤ (l.getD i default).fHi) && decide ((l.getD i default).fLo ≤ h + 1)) && decide ((l.getD i default).fHi > h) then
        some (.inl ((l.getD i default).fHi, true, ((i + 1 : Nat) : Int))) else some (.inl (h, g, ((i + 1 : Nat) : Int))) := by
      unfold M.ref4_Normalize_l4 M.ref4_Normalize_k2
      simp only [Int.toNat_natCast, hup, w1, w2, w3]
      rw [show decide ((i : Int) < (l.length : Int)) = true by simp; omega, cond_true, gdT (by cases decide ((l.getD i default).fLo ≤ (l.getD i default).fHi) <;> cases decide ((l.getD i default).fLo ≤ h + 1) <;> simp [guardB] <;> omega)]
      rw [gdT (l := [decide (0 ≤ (i : Int)), true]) (by simp)]
    cases hc : (decide ((l.getD i default).fLo ≤ (l.getD i default).fHi) && decide ((l.getD i default).fLo ≤ h + 1)) && decide ((l.getD i default).fHi > h) with
    | true =>
      rw [hc] at unf
      simp only [Bool.and_eq_true, decide_eq_true_eq] at hc
      obtain ⟨h', g', i1, i2, i3, i4, i5, i6⟩ := ih (i + 1) (l.getD i default).fHi true (by omega) (by omega) (by omega) (by omega) (fun y y1 y2 => by
        by_cases hy : y ≤ h
        · exact h5 y y1 hy
        · exact imem_at.2 ⟨i, hi, by omega, y2⟩)
      refine ⟨h', g', .next unf i1, by omega, i3, i4, fun e => ?_, fun _ => .inr (by omega)⟩
      have := (i5 e).1
      cases this
    | false =>
      rw [hc] at unf
      obtain ⟨h', g', i1, i2, i3, i4, i5, i6⟩ := ih (i + 1) h g (by omega) h2 h3 h4 h5
      refine ⟨h', g', .next unf i1, i2, i3, i4, fun e => ?_, i6⟩
      obtain ⟨e1, e2, e3⟩ := i5 e
      refine ⟨e1, e2, fun j h6 h7 => ?_⟩
      by_cases ej : j = i
      · subst ej
        simp only [Bool.and_eq_false_iff, decide_eq_false_iff_not] at hc
        omega
      · exact e3 j (by omega) h7
theorem r_l3 {l : List TInterval} (hl : l.length ≤ 1000000) (hu : ∀ t ∈ l, U32 t) {s : Int} (hs : 0 ≤ s) : ∀ (k : Nat) (h : Int), 4294967296 - h ≤ k → s ≤ h → h < 4294967296 → (∀ y, s ≤ y → y ≤ h → imem l y) →
    ∃ h', Iter (M.ref4_Normalize_l3 l) (h, true) h' ∧ h ≤ h' ∧ h' < 4294967296 ∧ (∀ y, s ≤ y → y ≤ h' → imem l y) ∧ ¬ imem l (h' + 1) := by
  intro k
  induction k with
  | zero => intro h h1 h2 h3; omega
  | succ k ih =>
    intro h h1 h2 h3 h4
    obtain ⟨h', g', i1, i2, i3, i4, i5, i6⟩ := r_l4 hl hu (s := s) l.length 0 h false (Nat.zero_add _) (by omega) h3 h2 h4
    have st : M.ref4_Normalize_l3 l (h, true) = some (.inl (h', g')) := by
      unfold M.ref4_Normalize_l3
      simp only [cond_true]
      rw [show ((0 : Int)) = ((0 : Nat) : Int) from rfl, loopM_of i1, Option.bind_some]
    cases g' with
    | true =>
      rcases i6 rfl with e | e
      · cases e
      · obtain ⟨h2', j1, j2, j3, j4, j5⟩ := ih h' (by omega) (by omega) i3 i4
        exact ⟨h2', .next st j1, by omega, j3, j4, j5⟩
    | false =>
      obtain ⟨_, e2, e3⟩ := i5 rfl
      subst e2
      refine ⟨h', .next st (.out ?_), Int.le_refl _, h3, h4, fun hm => ?_⟩
      · unfold M.ref4_Normalize_l3; rfl
      · obtain ⟨i, hi, y1, y2⟩ := imem_at.1 hm
        exact e3 i (Nat.zero_le _) hi ⟨by omega, y1, by omega⟩
theorem r_l1 {l : List TInterval} (hl : l.length ≤ 1000000) (hu : ∀ t ∈ l, U32 t) : ∀ (k : Nat) (out : List TInterval) (n : Int), 4294967296 - n ≤ k → 0 ≤ n → n ≤ 4294967296 → out.length ≤ n → Can out → (∀ t ∈ out, U32 t ∧ t.fHi < n) → (∀ y, imem out y ↔ imem l y ∧ y < n) → (out = [] ∨ ¬ imem l n) →
    ∃ r, Iter (M.ref4_Normalize_l1 l) (out, n) r ∧ IsN l r ∧ ∀ t ∈ r, U32 t := by
  intro k
  induction k with
  | zero =>
    intro out n h1 h2 h3 h4 h5 h6 h7 h8
    obtain ⟨b', i1, i2, i3, i4, i5⟩ := r_l2 hl hu (out := out) (n := n) ⟨h2, h3⟩ l.length 0 4294967296 (Nat.zero_add _) (by omega) (Int.le_refl _)
    have none : ∀ y, imem l y → y < n := fun y hy => by
      obtain ⟨j, hj, y1, y2⟩ := imem_at.1 hy
      have := hu _ (igetD_mem' hj); unfold U32 at this; omega
    have eb : b' = 4294967296 := by
      rcases i4 with e | ⟨e1, e2⟩
      · exact e
      · have := none b' e2; omega
    refine ⟨out, .out ?_, ⟨h5, fun y => (h7 y).trans ⟨fun h => h.1, fun h => ⟨h, none y h⟩⟩⟩, fun t ht => (h6 t ht).1⟩
    unfold M.ref4_Normalize_l1
    rw [show ((0 : Int)) = ((0 : Nat) : Int) from rfl, loopM_of i1, Option.bind_some, eb]
    rfl
  | succ k ih =>
    intro out n h1 h2 h3 h4 h5 h6 h7 h8
    obtain ⟨b', i1, i2, i3, i4, i5⟩ := r_l2 hl hu (out := out) (n := n) ⟨h2, h3⟩ l.length 0 4294967296 (Nat.zero_add _) (by omega) (Int.le_refl _)
    have least : ∀ y, imem l y → n ≤ y → b' ≤ y := fun y hy hn => by
      obtain ⟨j, hj, y1, y2⟩ := imem_at.1 hy
      exact i5 j (Nat.zero_le _) hj y hn y1 y2
    by_cases eb : b' = 4294967296
    · have none : ∀ y, imem l y → y < n := fun y hy => Classical.byContradiction fun hn => by
        have h9 := least y hy (by omega)
        obtain ⟨j, hj, y1, y2⟩ := imem_at.1 hy
        have := hu _ (igetD_mem' hj); unfold U32 at this; omega
      refine ⟨out, .out ?_, ⟨h5, fun y => (h7 y).trans ⟨fun h => h.1, fun h => ⟨h, none y h⟩⟩⟩, fun t ht => (h6 t ht).1⟩
      unfold M.ref4_Normalize_l1
      rw [show ((0 : Int)) = ((0 : Nat) : Int) from rfl, loopM_of i1, Option.bind_some, eb]
      rfl
    · obtain ⟨e1, e2⟩ := i4.resolve_left eb
      have hblt : b' < 4294967296 := by omega
      obtain ⟨h', j1, j2, j3, j4, j5⟩ := r_l3 hl hu (s := b') i2 (4294967296 - b').toNat b' (by omega) (Int.le_refl _) hblt (fun y y1 y2 => (show y = b' by omega) ▸ e2)
      have w1 : wr .u32 b' = b' := by unfold wr; simp [IntKind.wrap, IntKind.bits, IntKind.signed]; omega
      have w2 : wr .u32 h' = h' := by unfold wr; simp [IntKind.wrap, IntKind.bits, IntKind.signed]; omega
      have w3 : wr .u64 (h' + 1) = h' + 1 := wrU (by omega) (by omega)
      have hnew : ∀ y, imem (out ++ [(⟨b', h'⟩ : TInterval)]) y ↔ imem l y ∧ y < h' + 1 := fun y => by
        rw [imem_append, imem_one, h7]
        show (imem l y ∧ y < n) ∨ (b' ≤ y ∧ y ≤ h') ↔ _
        constructor
        · rintro (h | h)
          · exact ⟨h.1, by omega⟩
          · exact ⟨j4 y h.1 h.2, by omega⟩
        · rintro ⟨h, h9⟩
          by_cases hy : y < n
          · exact .inl ⟨h, hy⟩
          · exact .inr ⟨least y h (by omega), by omega⟩
      have hcan : Can (out ++ [(⟨b', h'⟩ : TInterval)]) := can_snoc.2 ⟨h5, j2, fun j hj => by
        show j.fHi + 1 < b'
        have h9 := (h6 j hj).2
        rcases h8 with e | e
        · rw [e] at hj; cases hj
        · have : b' ≠ n := fun e3 => e (by rw [← e3]; exact e2)
          omega⟩
      obtain ⟨r, r1, r2, r3⟩ := ih (out ++ [⟨b', h'⟩]) (h' + 1) (by omega) (by omega) (by omega) (by simp; omega) hcan (fun t ht => by
        rcases List.mem_append.1 ht with ht | ht
        · have := h6 t ht; exact ⟨this.1, by omega⟩
        · simp at ht; subst ht; exact ⟨⟨i2, hblt, by show 0 ≤ h'; omega, j3⟩, by show h' < h' + 1; omega⟩) hnew (.inr j5)
      refine ⟨r, .next ?_ r1, r2, r3⟩
      unfold M.ref4_Normalize_l1
      rw [show ((0 : Int)) = ((0 : Nat) : Int) from rfl, loopM_of i1, Option.bind_some, show (b' == 4294967296) = false by simpa using eb, cond_false, loopM_of j1, Option.bind_some, w1, w2, w3, gdT (by simp; omega)]
theorem refN_ok {l : List TInterval} (hl : l.length ≤ 1000000) (hu : ∀ t ∈ l, U32 t) : ∃ r, M.ref4_Normalize l = some r ∧ IsN l r ∧ ∀ t ∈ r, U32 t := by
  obtain ⟨r, h1, h2, h3⟩ := r_l1 hl hu 4294967296 [] 0 (by omega) (Int.le_refl _) (by omega) (Int.le_refl _) can_nil (fun t ht => by cases ht) (fun y => ⟨fun h => absurd h (imem_nil y), fun ⟨h, h2⟩ => by
    obtain ⟨j, hj, y1, y2⟩ := imem_at.1 h
    have := hu _ (igetD_mem' hj); unfold U32 at this; omega⟩) (.inl rfl)
  refine ⟨r, ?_, h2, h3⟩
  unfold M.ref4_Normalize
  rw [loopM_of h1, Option.bind_some]
end Nv
