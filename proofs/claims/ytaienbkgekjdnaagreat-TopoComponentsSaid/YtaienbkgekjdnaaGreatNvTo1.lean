/- Broadcast domains as groups of ends with one key: what a list of domains must be. No condition. -/
import Derived.Test.YtaienbkgekjdnaaGreatNvD1
import Derived.Test.YtaienbkgekjdnaaGreatNvLibB
namespace Nv
open Go
theorem Wj {σ τ β : Type} {f : τ → Option (τ ⊕ β)} (mk : Nat → σ → τ) (n : Nat) (J : Nat → σ → Prop) (R : β → Prop)
    (step : ∀ i s, i < n → J i s → (∃ s', f (mk i s) = some (.inl (mk (i + 1) s')) ∧ J (i + 1) s') ∨ ∃ y, f (mk i s) = some (.inr y) ∧ R y)
    (out : ∀ s, J n s → ∃ y, f (mk n s) = some (.inr y) ∧ R y) : ∀ (k i : Nat) (s : σ), i + k = n → J i s → ∃ y, loopM f (mk i s) = some y ∧ R y
  | 0, i, s, h, hJ => by
    obtain rfl : i = n := by omega
    obtain ⟨y, h1, h2⟩ := out s hJ
    exact ⟨y, Wn (.out h1), h2⟩
  | k + 1, i, s, h, hJ => by
    rcases step i s (by omega) hJ with ⟨s', h1, h2⟩ | ⟨y, h1, h2⟩
    · obtain ⟨y, h3, h4⟩ := Wj mk n J R step out k (i + 1) s' (by omega) h2
      exact ⟨y, Wn (.next h1 (VI h3)), h4⟩
    · exact ⟨y, Wn (.out h1), h2⟩
theorem up64 {i n : Nat} (h : i < n) (hn : n ≤ 4611686018427387904) : wr .i64 ((i : Int) + 1) = ((i + 1 : Nat) : Int) := Zk9 (n := n) h (by have := Zu; omega)
abbrev DKey := Int × Int × Int
abbrev DEnd := Int × Int
abbrev DItem := DKey × DEnd
def dkey (d : Zh) : DKey := (d.Zo.Zy, d.Zo.ZW, d.XD)
def dend (e : Qo) : DEnd := (e.Xp, e.J2)
def dends (d : Zh) : List DEnd := d.ZU.map dend
theorem ZgY {a b : Qo} (h : dend a = dend b) : a = b := by
  cases a; cases b
  simp only [dend, Prod.mk.injEq] at h
  simp [h.1, h.2]
def sel (its : List DItem) (k : DKey) : List DEnd := (its.filter fun x => decide (x.1 = k)).map (·.2)
theorem Zh5 (its : List DItem) (x : DItem) (k : DKey) : sel (its ++ [x]) k = sel its k ++ (if x.1 = k then [x.2] else []) := by
  unfold sel
  rw [List.filter_append, List.map_append]
  congr 1
  by_cases h : x.1 = k <;> simp [h]
theorem ZdW {its : List DItem} {k : DKey} {e : DEnd} : e ∈ sel its k ↔ (k, e) ∈ its := by
  unfold sel
  simp only [List.mem_map, List.mem_filter, decide_eq_true_eq]
  constructor
  · rintro ⟨⟨k', e'⟩, ⟨h1, h2⟩, h3⟩
    simp only at h2 h3
    rw [← h2, ← h3]; exact h1
  · exact fun h => ⟨(k, e), ⟨h, rfl⟩, rfl⟩
structure Grp (its : List DItem) (D : List Zh) : Prop where
  nd : (D.map dkey).Nodup
  ends : ∀ d ∈ D, dends d = sel its (dkey d)
  ne : ∀ d ∈ D, dends d ≠ []
  cov : ∀ x ∈ its, ∃ d ∈ D, dkey d = x.1
  len : D.length ≤ its.length
theorem Zk0 : Grp [] [] := ⟨List.nodup_nil, fun _ h => absurd h List.not_mem_nil, fun _ h => absurd h List.not_mem_nil, fun _ h => absurd h List.not_mem_nil, Nat.le_refl _⟩
theorem Grp.perm {its : List DItem} {D D' : List Zh} (h : Grp its D) (p : D.Perm D') : Grp its D' :=
  ⟨(p.map dkey).nodup_iff.1 h.nd, fun d hd => h.ends d (p.mem_iff.2 hd), fun d hd => h.ne d (p.mem_iff.2 hd), fun x hx => by obtain ⟨d, h1, h2⟩ := h.cov x hx; exact ⟨d, p.mem_iff.1 h1, h2⟩, by rw [← p.length_eq]; exact h.len⟩
theorem Zj6 {its : List DItem} {D : List Zh} (h : Grp its D) {k : DKey} (hk : ∀ d ∈ D, dkey d ≠ k) : sel its k = [] := by
  rcases hs : sel its k with _ | ⟨e, l⟩
  · rfl
  · have h1 : (k, e) ∈ its := ZdW.1 (by rw [hs]; exact List.mem_cons_self)
    obtain ⟨d, h2, h3⟩ := h.cov _ h1
    exact absurd h3 (hk d h2)
theorem Grp.add {its : List DItem} {D : List Zh} (h : Grp its D) (d : Zh) (e : DEnd) (hk : ∀ c ∈ D, dkey c ≠ dkey d) (he : dends d = [e]) : Grp (its ++ [(dkey d, e)]) (D ++ [d]) where
  nd := by
    rw [List.map_append, List.nodup_append]
    refine ⟨h.nd, by simp, fun a ha b hb => ?_⟩
    simp only [List.map_cons, List.map_nil, List.mem_singleton] at hb
    obtain ⟨c, h1, h2⟩ := List.mem_map.1 ha
    rw [← h2, hb]
    exact hk c h1
  ends c hc := by
    rw [Zh5]
    rcases List.mem_append.1 hc with h1 | h1
    · rw [h.ends c h1, if_neg (fun hh => hk c h1 hh.symm), List.append_nil]
    · obtain rfl := List.mem_singleton.1 h1
      rw [Zj6 h hk, he]; simp
  ne c hc := by
    rcases List.mem_append.1 hc with h1 | h1
    · exact h.ne c h1
    · rw [List.mem_singleton.1 h1, he]; simp
  cov x hx := by
    rcases List.mem_append.1 hx with h1 | h1
    · obtain ⟨c, h2, h3⟩ := h.cov x h1
      exact ⟨c, List.mem_append_left _ h2, h3⟩
    · rw [List.mem_singleton.1 h1]; exact ⟨d, by simp, rfl⟩
  len := by have := h.len; simp; omega
theorem ZiP {D : List Zh} (h : (D.map dkey).Nodup) {c d : Zh} (hc : c ∈ D) (hd : d ∈ D) (he : dkey c = dkey d) : c = d := by
  induction D with
  | nil => cases hc
  | cons x l ih =>
    simp only [List.map_cons, List.nodup_cons] at h
    rcases List.mem_cons.1 hc with e1 | h1 <;> rcases List.mem_cons.1 hd with e2 | h2
    · rw [e1, e2]
    · exact absurd (List.mem_map.2 ⟨d, h2, by rw [← he, e1]⟩) h.1
    · exact absurd (List.mem_map.2 ⟨c, h1, by rw [he, e2]⟩) h.1
    · exact ih h.2 h1 h2
theorem V4 {D : List Zh} {j : Nat} (hj : j < D.length) : D.getD j default ∈ D := by
  rw [List.getD_eq_getElem?_getD, List.getElem?_eq_getElem hj]; exact List.getElem_mem hj
theorem Zaj {D : List Zh} {j : Nat} {d : Zh} (hj : j < D.length) (hd : dkey d = dkey (D.getD j default)) : (D.set j d).map dkey = D.map dkey := by
  rw [List.map_set]
  apply List.ext_getElem (by simp)
  intro i h1 h2
  rw [List.getElem_set]
  split
  · rename_i hi; subst hi
    rw [hd, List.getD_eq_getElem?_getD, List.getElem?_eq_getElem hj]; simp
  · rfl
theorem Grp.grow {its : List DItem} {D : List Zh} (h : Grp its D) {j : Nat} (hj : j < D.length) (d : Zh) (e : DEnd) (hk : dkey d = dkey (D.getD j default)) (he : dends d = dends (D.getD j default) ++ [e]) : Grp (its ++ [(dkey d, e)]) (D.set j d) where
  nd := by rw [Zaj hj hk]; exact h.nd
  ends c hc := by
    rw [Zh5]
    obtain ⟨i, hi, hci⟩ := List.getElem_of_mem hc
    rw [List.getElem_set] at hci
    rw [List.length_set] at hi
    have hgj := V4 hj
    split at hci
    · subst hci
      rw [if_pos rfl, he, h.ends _ hgj, hk]
    · rename_i hne
      have hcD : c ∈ D := hci ▸ List.getElem_mem hi
      have hcj : dkey c ≠ dkey d := fun hh => by
        have : (D.map dkey)[i]'(by simpa using hi) = (D.map dkey)[j]'(by simpa using hj) := by
          simp only [List.getElem_map]
          rw [hci, hh, hk, List.getD_eq_getElem?_getD, List.getElem?_eq_getElem hj]; rfl
        exact hne ((List.getElem_inj h.nd).1 this).symm
      rw [if_neg (fun hh => hcj hh.symm), List.append_nil]
      exact h.ends c hcD
  ne c hc := by
    rcases List.mem_or_eq_of_mem_set hc with h1 | h1
    · exact h.ne c h1
    · rw [h1, he]; simp
  cov x hx := by
    have key : ∀ k, (∃ c ∈ D, dkey c = k) → ∃ c ∈ D.set j d, dkey c = k := fun k ⟨c, h1, h2⟩ => by
      have : k ∈ (D.set j d).map dkey := by rw [Zaj hj hk]; exact List.mem_map.2 ⟨c, h1, h2⟩
      obtain ⟨c', h3, h4⟩ := List.mem_map.1 this
      exact ⟨c', h3, h4⟩
    rcases List.mem_append.1 hx with h1 | h1
    · exact key _ (h.cov x h1)
    · rw [List.mem_singleton.1 h1]
      exact key _ ⟨_, V4 hj, hk.symm⟩
  len := by have := h.len; simp; omega
def klt (x y : DKey) : Prop := x.1 < y.1 ∨ (x.1 = y.1 ∧ (x.2.1 < y.2.1 ∨ (x.2.1 = y.2.1 ∧ x.2.2 < y.2.2)))
theorem ZdX (x : DKey) : ¬ klt x x := by unfold klt; omega
theorem Zfs {x y z : DKey} (h : klt x y) (k : klt y z) : klt x z := by unfold klt at *; omega
theorem ZiQ (x y : DKey) : klt x y ∨ x = y ∨ klt y x := by
  obtain ⟨a, b, c⟩ := x
  obtain ⟨a', b', c'⟩ := y
  unfold klt
  simp only [Prod.mk.injEq]
  omega
def Asc (D : List Zh) : Prop := D.Pairwise fun x y => klt (dkey x) (dkey y)
theorem Zk1 {its : List DItem} (h : (its.map (·.2)).Nodup) {k k' : DKey} {e : DEnd} (h1 : (k, e) ∈ its) (h2 : (k', e) ∈ its) : k = k' := by
  induction its with
  | nil => cases h1
  | cons x l ih =>
    simp only [List.map_cons, List.nodup_cons] at h
    rcases List.mem_cons.1 h1 with e1 | g1 <;> rcases List.mem_cons.1 h2 with e2 | g2
    · exact congrArg Prod.fst (e1.trans e2.symm)
    · exact absurd (List.mem_map.2 ⟨_, g2, by rw [← e1]⟩) h.1
    · exact absurd (List.mem_map.2 ⟨_, g1, by rw [← e2]⟩) h.1
    · exact ih h.2 g1 g2
def netP (a n : Int) : ZZ := ⟨bitD .and .u32 a (mk32 n), cl32 n⟩
def ifc (n : ZB) (r i : Nat) : Zl := (n.Zd.getD r default).Zc.getD i default
def nif (n : ZB) (r : Nat) : Nat := (n.Zd.getD r default).Zc.length
def elig (x : Zl) : Bool := !((x.ZW == 0) || x.Qy)
def ikey (x : Zl) : DKey := ((netP x.Zy x.ZW).Zy, (netP x.Zy x.ZW).ZW, x.XD)
def itI (n : ZB) (r i : Nat) : List DItem := bif elig (ifc n r i) then [(ikey (ifc n r i), ((r : Int), (i : Int)))] else []
def itR (n : ZB) (r m : Nat) : List DItem := (List.range m).flatMap (itI n r)
def itN (n : ZB) (m : Nat) : List DItem := (List.range m).flatMap fun r => itR n r (nif n r)
theorem ZcC (n : ZB) (r m : Nat) : itR n r (m + 1) = itR n r m ++ itI n r m := by simp [itR, List.range_succ]
theorem ZeR (n : ZB) (m : Nat) : itN n (m + 1) = itN n m ++ itR n m (nif n m) := by simp [itN, List.range_succ]
theorem Zh6 {n : ZB} {r i : Nat} {x : DItem} : x ∈ itI n r i ↔ elig (ifc n r i) = true ∧ x = (ikey (ifc n r i), ((r : Int), (i : Int))) := by
  unfold itI
  cases elig (ifc n r i) <;> simp
theorem Zga {n : ZB} {r m : Nat} {x : DItem} : x ∈ itR n r m ↔ ∃ i, i < m ∧ elig (ifc n r i) = true ∧ x = (ikey (ifc n r i), ((r : Int), (i : Int))) := by
  simp only [itR, List.mem_flatMap, List.mem_range, Zh6]
theorem Zh7 {n : ZB} {m : Nat} {x : DItem} : x ∈ itN n m ↔ ∃ r i, r < m ∧ i < nif n r ∧ elig (ifc n r i) = true ∧ x = (ikey (ifc n r i), ((r : Int), (i : Int))) := by
  simp only [itN, List.mem_flatMap, List.mem_range, Zga]
  constructor
  · rintro ⟨r, h1, i, h2, h3, h4⟩; exact ⟨r, i, h1, h2, h3, h4⟩
  · rintro ⟨r, i, h1, h2, h3, h4⟩; exact ⟨r, h1, i, h2, h3, h4⟩
theorem Zgb (n : ZB) (r : Nat) : ∀ m, (itR n r m).length ≤ m
  | 0 => by simp [itR]
  | m + 1 => by
    rw [ZcC, List.length_append]
    have := Zgb n r m
    have h : (itI n r m).length ≤ 1 := by unfold itI; cases elig (ifc n r m) <;> simp
    omega
theorem ZdY (n : ZB) {b : Nat} (hb : ∀ r, nif n r ≤ b) : ∀ m, (itN n m).length ≤ m * b
  | 0 => by simp [itN]
  | m + 1 => by
    rw [ZeR, List.length_append, Nat.succ_mul]
    have := ZdY n hb m
    have h1 := Zgb n m (nif n m)
    have h2 := hb m
    omega
def ApartN (n : ZB) : Prop := ∀ r, r < n.Zd.length → ∀ i, i < nif n r → ∀ k, k < i → elig (ifc n r i) = true → elig (ifc n r k) = true → ikey (ifc n r k) ≠ ikey (ifc n r i)
def iord (x y : DItem) : Prop := x.2.1 < y.2.1 ∨ (x.2.1 = y.2.1 ∧ x.2.2 < y.2.2)
theorem Zh8 (n : ZB) (r : Nat) : ∀ m, (itR n r m).Pairwise iord
  | 0 => by simp [itR]
  | m + 1 => by
    rw [ZcC, List.pairwise_append]
    refine ⟨Zh8 n r m, by unfold itI; cases elig (ifc n r m) <;> simp, fun x hx y hy => ?_⟩
    obtain ⟨i, h1, _, rfl⟩ := Zga.1 hx
    obtain ⟨_, rfl⟩ := Zh6.1 hy
    exact .inr ⟨rfl, Int.ofNat_lt.2 h1⟩
theorem Zh9 (n : ZB) : ∀ m, (itN n m).Pairwise iord
  | 0 => by simp [itN]
  | m + 1 => by
    rw [ZeR, List.pairwise_append]
    refine ⟨Zh9 n m, Zh8 n m _, fun x hx y hy => ?_⟩
    obtain ⟨r, i, h1, _, _, rfl⟩ := Zh7.1 hx
    obtain ⟨i, _, _, rfl⟩ := Zga.1 hy
    exact .inl (Int.ofNat_lt.2 h1)
theorem ZiR (n : ZB) (m : Nat) : ((itN n m).map (·.2)).Nodup := by
  unfold List.Nodup
  rw [List.pairwise_map]
  refine (Zh9 n m).imp fun {x y} h e => ?_
  unfold iord at h
  rw [e] at h
  omega
theorem Zk2 {n : ZB} {m : Nat} {D : List Zh} (h : Grp (itN n m) D) {d : Zh} (hd : d ∈ D) {e : DEnd} (he : e ∈ dends d) : ∃ r i, r < m ∧ i < nif n r ∧ elig (ifc n r i) = true ∧ dkey d = ikey (ifc n r i) ∧ e = ((r : Int), (i : Int)) := by
  have := ZdW.1 (h.ends d hd ▸ he)
  obtain ⟨r, i, h1, h2, h3, h4⟩ := Zh7.1 this
  exact ⟨r, i, h1, h2, h3, congrArg Prod.fst h4, congrArg Prod.snd h4⟩
end Nv
