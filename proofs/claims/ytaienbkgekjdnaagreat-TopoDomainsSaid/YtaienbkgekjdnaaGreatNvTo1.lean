/- Broadcast domains as groups of ends with one key: what a list of domains must be. No condition. -/
import Derived.Test.YtaienbkgekjdnaaGreatNvD1
import Derived.Test.YtaienbkgekjdnaaGreatNvLibB
namespace Nv
open Go
theorem loop_inv {σ τ β : Type} {f : τ → Option (τ ⊕ β)} (mk : Nat → σ → τ) (n : Nat) (J : Nat → σ → Prop) (R : β → Prop)
    (step : ∀ i s, i < n → J i s → (∃ s', f (mk i s) = some (.inl (mk (i + 1) s')) ∧ J (i + 1) s') ∨ ∃ y, f (mk i s) = some (.inr y) ∧ R y)
    (out : ∀ s, J n s → ∃ y, f (mk n s) = some (.inr y) ∧ R y) : ∀ (k i : Nat) (s : σ), i + k = n → J i s → ∃ y, loopM f (mk i s) = some y ∧ R y
  | 0, i, s, h, hJ => by
    obtain rfl : i = n := by omega
    obtain ⟨y, h1, h2⟩ := out s hJ
    exact ⟨y, loopM_of (.out h1), h2⟩
  | k + 1, i, s, h, hJ => by
    rcases step i s (by omega) hJ with ⟨s', h1, h2⟩ | ⟨y, h1, h2⟩
    · obtain ⟨y, h3, h4⟩ := loop_inv mk n J R step out k (i + 1) s' (by omega) h2
      exact ⟨y, loopM_of (.next h1 (loopM_iter h3)), h4⟩
    · exact ⟨y, loopM_of (.out h1), h2⟩
theorem up64 {i n : Nat} (h : i < n) (hn : n ≤ 4611686018427387904) : wr .i64 ((i : Int) + 1) = ((i + 1 : Nat) : Int) := wr_up (n := n) h (by have := maxLen_eq; omega)
abbrev DKey := Int × Int × Int
abbrev DEnd := Int × Int
abbrev DItem := DKey × DEnd
def dkey (d : TDomain) : DKey := (d.fPrefix.fAddr, d.fPrefix.fLen, d.fVLAN)
def dend (e : TEnd) : DEnd := (e.fRouter, e.fIface)
def dends (d : TDomain) : List DEnd := d.fEnds.map dend
def sel (its : List DItem) (k : DKey) : List DEnd := (its.filter fun x => decide (x.1 = k)).map (·.2)
theorem sel_app (its : List DItem) (x : DItem) (k : DKey) : sel (its ++ [x]) k = sel its k ++ (if x.1 = k then [x.2] else []) := by
  unfold sel
  rw [List.filter_append, List.map_append]
  congr 1
  by_cases h : x.1 = k <;> simp [h]
theorem mem_sel {its : List DItem} {k : DKey} {e : DEnd} : e ∈ sel its k ↔ (k, e) ∈ its := by
  unfold sel
  simp only [List.mem_map, List.mem_filter, decide_eq_true_eq]
  constructor
  · rintro ⟨⟨k', e'⟩, ⟨h1, h2⟩, h3⟩
    simp only at h2 h3
    rw [← h2, ← h3]; exact h1
  · exact fun h => ⟨(k, e), ⟨h, rfl⟩, rfl⟩
structure Grp (its : List DItem) (D : List TDomain) : Prop where
  nd : (D.map dkey).Nodup
  ends : ∀ d ∈ D, dends d = sel its (dkey d)
  ne : ∀ d ∈ D, dends d ≠ []
  cov : ∀ x ∈ its, ∃ d ∈ D, dkey d = x.1
  len : D.length ≤ its.length
theorem grp_nil : Grp [] [] := ⟨List.nodup_nil, fun _ h => absurd h List.not_mem_nil, fun _ h => absurd h List.not_mem_nil, fun _ h => absurd h List.not_mem_nil, Nat.le_refl _⟩
theorem Grp.perm {its : List DItem} {D D' : List TDomain} (h : Grp its D) (p : D.Perm D') : Grp its D' :=
  ⟨(p.map dkey).nodup_iff.1 h.nd, fun d hd => h.ends d (p.mem_iff.2 hd), fun d hd => h.ne d (p.mem_iff.2 hd), fun x hx => by obtain ⟨d, h1, h2⟩ := h.cov x hx; exact ⟨d, p.mem_iff.1 h1, h2⟩, by rw [← p.length_eq]; exact h.len⟩
theorem sel_none {its : List DItem} {D : List TDomain} (h : Grp its D) {k : DKey} (hk : ∀ d ∈ D, dkey d ≠ k) : sel its k = [] := by
  rcases hs : sel its k with _ | ⟨e, l⟩
  · rfl
  · have h1 : (k, e) ∈ its := mem_sel.1 (by rw [hs]; exact List.mem_cons_self)
    obtain ⟨d, h2, h3⟩ := h.cov _ h1
    exact absurd h3 (hk d h2)
theorem Grp.add {its : List DItem} {D : List TDomain} (h : Grp its D) (d : TDomain) (e : DEnd) (hk : ∀ c ∈ D, dkey c ≠ dkey d) (he : dends d = [e]) : Grp (its ++ [(dkey d, e)]) (D ++ [d]) where
  nd := by
    rw [List.map_append, List.nodup_append]
    refine ⟨h.nd, by simp, fun a ha b hb => ?_⟩
    simp only [List.map_cons, List.map_nil, List.mem_singleton] at hb
    obtain ⟨c, h1, h2⟩ := List.mem_map.1 ha
    rw [← h2, hb]
    exact hk c h1
  ends c hc := by
    rw [sel_app]
    rcases List.mem_append.1 hc with h1 | h1
    · rw [h.ends c h1, if_neg (fun hh => hk c h1 hh.symm), List.append_nil]
    · obtain rfl := List.mem_singleton.1 h1
      rw [sel_none h hk, he]; simp
  ne c hc := by
    rcases List.mem_append.1 hc with h1 | h1
    · exact h.ne c h1
    · rw [List.mem_singleton.1 h1, he]; simp
  cov x hx := by
    rcases List.mem_append.1 hx with h1 | h1
    · obtain ⟨c, h2, h3⟩ := h.cov x h1
      exact ⟨c, List.mem_append_left _ h2, h3⟩
    · rw [List.mem_singleton.1 h1]; exact ⟨d, by simp, rfl⟩
  len := by have := h.len; simp; omega
theorem getD_mem' {D : List TDomain} {j : Nat} (hj : j < D.length) : D.getD j default ∈ D := by
  rw [List.getD_eq_getElem?_getD, List.getElem?_eq_getElem hj]; exact List.getElem_mem hj
theorem map_set_key {D : List TDomain} {j : Nat} {d : TDomain} (hj : j < D.length) (hd : dkey d = dkey (D.getD j default)) : (D.set j d).map dkey = D.map dkey := by
  rw [List.map_set]
  apply List.ext_getElem (by simp)
  intro i h1 h2
  rw [List.getElem_set]
  split
  · rename_i hi; subst hi
    rw [hd, List.getD_eq_getElem?_getD, List.getElem?_eq_getElem hj]; simp
  · rfl
theorem Grp.grow {its : List DItem} {D : List TDomain} (h : Grp its D) {j : Nat} (hj : j < D.length) (d : TDomain) (e : DEnd) (hk : dkey d = dkey (D.getD j default)) (he : dends d = dends (D.getD j default) ++ [e]) : Grp (its ++ [(dkey d, e)]) (D.set j d) where
  nd := by rw [map_set_key hj hk]; exact h.nd
  ends c hc := by
    rw [sel_app]
    obtain ⟨i, hi, hci⟩ := List.getElem_of_mem hc
    rw [List.getElem_set] at hci
    rw [List.length_set] at hi
    have hgj := getD_mem' hj
    split at hci
    · subst hci
      rw [if_pos rfl, he, h.ends _ hgj, hk]
    · rename_i hne
      have hcD : c ∈ D := hci ▸ List.getElem_mem hi
      have hcj : dkey c ≠ dkey d := fun hh => by
        have : (D.map dkey)[i]'(by simpa using hi) = (D.map dkey)[j]'(by simpa using hj) := by
          simp only [List.getElem_map]
          rw [hci, hh, hk, List.getD_eq_getElem?_getD, List.getElem?_eq_getElem hj]; rfl
        exact hne ((List.getElem_inj h.nd).1 this).symm
      rw [if_neg (fun hh => hcj hh.symm), List.append_nil]
      exact h.ends c hcD
  ne c hc := by
    rcases List.mem_or_eq_of_mem_set hc with h1 | h1
    · exact h.ne c h1
    · rw [h1, he]; simp
  cov x hx := by
    have key : ∀ k, (∃ c ∈ D, dkey c = k) → ∃ c ∈ D.set j d, dkey c = k := fun k ⟨c, h1, h2⟩ => by
      have : k ∈ (D.set j d).map dkey := by rw [map_set_key hj hk]; exact List.mem_map.2 ⟨c, h1, h2⟩
      obtain ⟨c', h3, h4⟩ := List.mem_map.1 this
      exact ⟨c', h3, h4⟩
    rcases List.mem_append.1 hx with h1 | h1
    · exact key _ (h.cov x h1)
    · rw [List.mem_singleton.1 h1]
      exact key _ ⟨_, getD_mem' hj, hk.symm⟩
  len := by have := h.len; simp; omega
def klt (x y : DKey) : Prop := x.1 < y.1 ∨ (x.1 = y.1 ∧ (x.2.1 < y.2.1 ∨ (x.2.1 = y.2.1 ∧ x.2.2 < y.2.2)))
theorem klt_total (x y : DKey) : klt x y ∨ x = y ∨ klt y x := by
  obtain ⟨a, b, c⟩ := x
  obtain ⟨a', b', c'⟩ := y
  unfold klt
  simp only [Prod.mk.injEq]
  omega
def Asc (D : List TDomain) : Prop := D.Pairwise fun x y => klt (dkey x) (dkey y)
def cntD (e : DEnd) : List TDomain → Nat
  | [] => 0
  | d :: l => (dends d).count e + cntD e l
theorem cntD_app (e : DEnd) : ∀ (l m : List TDomain), cntD e (l ++ m) = cntD e l + cntD e m
  | [], m => by simp [cntD]
  | d :: l, m => by simp only [List.cons_append, cntD, cntD_app e l m]; omega
theorem cntD_zero {e : DEnd} : ∀ {D : List TDomain}, (∀ d ∈ D, e ∉ dends d) → cntD e D = 0
  | [], _ => rfl
  | d :: l, h => by
    simp only [cntD]
    rw [List.count_eq_zero.2 (h d List.mem_cons_self), cntD_zero fun c hc => h c (List.mem_cons_of_mem _ hc)]
theorem count_nodup {l : List DEnd} (h : l.Nodup) {e : DEnd} (he : e ∈ l) : l.count e = 1 := by
  induction l with
  | nil => cases he
  | cons x l ih =>
    obtain ⟨h1, h2⟩ := List.nodup_cons.1 h
    rcases List.mem_cons.1 he with rfl | h3
    · rw [List.count_cons_self, List.count_eq_zero.2 h1]
    · have : x ≠ e := fun hh => h1 (hh ▸ h3)
      rw [List.count_cons_of_ne this]
      exact ih h2 h3
theorem sel_nodup {its : List DItem} (h : (its.map (·.2)).Nodup) (k : DKey) : (sel its k).Nodup :=
  List.Nodup.sublist (List.Sublist.map (fun x : DItem => x.2) (List.filter_sublist (l := its) (p := fun x => decide (x.1 = k)))) h
theorem snd_inj {its : List DItem} (h : (its.map (·.2)).Nodup) {k k' : DKey} {e : DEnd} (h1 : (k, e) ∈ its) (h2 : (k', e) ∈ its) : k = k' := by
  induction its with
  | nil => cases h1
  | cons x l ih =>
    simp only [List.map_cons, List.nodup_cons] at h
    rcases List.mem_cons.1 h1 with e1 | g1 <;> rcases List.mem_cons.1 h2 with e2 | g2
    · exact congrArg Prod.fst (e1.trans e2.symm)
    · exact absurd (List.mem_map.2 ⟨_, g2, by rw [← e1]⟩) h.1
    · exact absurd (List.mem_map.2 ⟨_, g1, by rw [← e2]⟩) h.1
    · exact ih h.2 g1 g2
theorem cntD_none {its : List DItem} {D : List TDomain} (h : Grp its D) {e : DEnd} (he : ∀ k, (k, e) ∉ its) : cntD e D = 0 :=
  cntD_zero fun d hd hh => he (dkey d) (mem_sel.1 (h.ends d hd ▸ hh))
theorem cntD_one {its : List DItem} {D : List TDomain} (h : Grp its D) (hn : (its.map (·.2)).Nodup) {k : DKey} {e : DEnd} (he : (k, e) ∈ its) : cntD e D = 1 := by
  obtain ⟨d, hd, hk⟩ := h.cov _ he
  obtain ⟨A, B, rfl⟩ := List.append_of_mem hd
  have hnd := h.nd
  rw [List.map_append, List.map_cons, List.nodup_append, List.nodup_cons] at hnd
  have other : ∀ c, c ∈ A ++ d :: B → dkey c ≠ dkey d → e ∉ dends c := fun c hc hne hh => by
    have := snd_inj hn (mem_sel.1 (h.ends c hc ▸ hh)) he
    exact hne (this.trans hk.symm)
  have hA : cntD e A = 0 := cntD_zero fun c hc => other c (List.mem_append_left _ hc) (fun hh => hnd.2.2 _ (List.mem_map.2 ⟨c, hc, rfl⟩) _ List.mem_cons_self hh)
  have hB : cntD e B = 0 := cntD_zero fun c hc => other c (List.mem_append_right _ (List.mem_cons_of_mem _ hc)) (fun hh => hnd.2.1.1 (List.mem_map.2 ⟨c, hc, hh⟩))
  have h1 : (dends d).count e = 1 := by
    rw [h.ends d hd]
    exact count_nodup (sel_nodup hn _) (mem_sel.2 (by rw [hk]; exact he))
  rw [cntD_app, hA]
  simp only [cntD]
  omega
def netP (a n : Int) : TPrefix := ⟨bitD .and .u32 a (mk32 n), cl32 n⟩
def ifc (n : TNetwork) (r i : Nat) : TInterface := (n.fRouters.getD r default).fInterfaces.getD i default
def nif (n : TNetwork) (r : Nat) : Nat := (n.fRouters.getD r default).fInterfaces.length
def elig (x : TInterface) : Bool := !((x.fLen == 0) || x.fDown)
def ikey (x : TInterface) : DKey := ((netP x.fAddr x.fLen).fAddr, (netP x.fAddr x.fLen).fLen, x.fVLAN)
def itI (n : TNetwork) (r i : Nat) : List DItem := bif elig (ifc n r i) then [(ikey (ifc n r i), ((r : Int), (i : Int)))] else []
def itR (n : TNetwork) (r m : Nat) : List DItem := (List.range m).flatMap (itI n r)
def itN (n : TNetwork) (m : Nat) : List DItem := (List.range m).flatMap fun r => itR n r (nif n r)
theorem itR_succ (n : TNetwork) (r m : Nat) : itR n r (m + 1) = itR n r m ++ itI n r m := by simp [itR, List.range_succ]
theorem itN_succ (n : TNetwork) (m : Nat) : itN n (m + 1) = itN n m ++ itR n m (nif n m) := by simp [itN, List.range_succ]
theorem mem_itI {n : TNetwork} {r i : Nat} {x : DItem} : x ∈ itI n r i ↔ elig (ifc n r i) = true ∧ x = (ikey (ifc n r i), ((r : Int), (i : Int))) := by
  unfold itI
  cases elig (ifc n r i) <;> simp
theorem mem_itR {n : TNetwork} {r m : Nat} {x : DItem} : x ∈ itR n r m ↔ ∃ i, i < m ∧ elig (ifc n r i) = true ∧ x = (ikey (ifc n r i), ((r : Int), (i : Int))) := by
  simp only [itR, List.mem_flatMap, List.mem_range, mem_itI]
theorem mem_itN {n : TNetwork} {m : Nat} {x : DItem} : x ∈ itN n m ↔ ∃ r i, r < m ∧ i < nif n r ∧ elig (ifc n r i) = true ∧ x = (ikey (ifc n r i), ((r : Int), (i : Int))) := by
  simp only [itN, List.mem_flatMap, List.mem_range, mem_itR]
  constructor
  · rintro ⟨r, h1, i, h2, h3, h4⟩; exact ⟨r, i, h1, h2, h3, h4⟩
  · rintro ⟨r, i, h1, h2, h3, h4⟩; exact ⟨r, h1, i, h2, h3, h4⟩
theorem itR_len (n : TNetwork) (r : Nat) : ∀ m, (itR n r m).length ≤ m
  | 0 => by simp [itR]
  | m + 1 => by
    rw [itR_succ, List.length_append]
    have := itR_len n r m
    have h : (itI n r m).length ≤ 1 := by unfold itI; cases elig (ifc n r m) <;> simp
    omega
theorem itN_len (n : TNetwork) {b : Nat} (hb : ∀ r, nif n r ≤ b) : ∀ m, (itN n m).length ≤ m * b
  | 0 => by simp [itN]
  | m + 1 => by
    rw [itN_succ, List.length_append, Nat.succ_mul]
    have := itN_len n hb m
    have h1 := itR_len n m (nif n m)
    have h2 := hb m
    omega
def ApartN (n : TNetwork) : Prop := ∀ r, r < n.fRouters.length → ∀ i, i < nif n r → ∀ k, k < i → elig (ifc n r i) = true → elig (ifc n r k) = true → ikey (ifc n r k) ≠ ikey (ifc n r i)
def iord (x y : DItem) : Prop := x.2.1 < y.2.1 ∨ (x.2.1 = y.2.1 ∧ x.2.2 < y.2.2)
theorem itR_ord (n : TNetwork) (r : Nat) : ∀ m, (itR n r m).Pairwise iord
  | 0 => by simp [itR]
  | m + 1 => by
    rw [itR_succ, List.pairwise_append]
    refine ⟨itR_ord n r m, by unfold itI; cases elig (ifc n r m) <;> simp, fun x hx y hy => ?_⟩
    obtain ⟨i, h1, _, rfl⟩ := mem_itR.1 hx
    obtain ⟨_, rfl⟩ := mem_itI.1 hy
    exact .inr ⟨rfl, Int.ofNat_lt.2 h1⟩
theorem itN_ord (n : TNetwork) : ∀ m, (itN n m).Pairwise iord
  | 0 => by simp [itN]
  | m + 1 => by
    rw [itN_succ, List.pairwise_append]
    refine ⟨itN_ord n m, itR_ord n m _, fun x hx y hy => ?_⟩
    obtain ⟨r, i, h1, _, _, rfl⟩ := mem_itN.1 hx
    obtain ⟨i, _, _, rfl⟩ := mem_itR.1 hy
    exact .inl (Int.ofNat_lt.2 h1)
theorem itN_nodup (n : TNetwork) (m : Nat) : ((itN n m).map (·.2)).Nodup := by
  unfold List.Nodup
  rw [List.pairwise_map]
  refine (itN_ord n m).imp fun {x y} h e => ?_
  unfold iord at h
  rw [e] at h
  omega
theorem itN_up {n : TNetwork} (ha : ApartN n) : (itN n n.fRouters.length).Pairwise fun x y => x.1 = y.1 → x.2.1 < y.2.1 := by
  have h := itN_ord n n.fRouters.length
  have hm : ∀ x ∈ itN n n.fRouters.length, ∃ r i, r < n.fRouters.length ∧ i < nif n r ∧ elig (ifc n r i) = true ∧ x = (ikey (ifc n r i), ((r : Int), (i : Int))) := fun x hx => mem_itN.1 hx
  revert h hm
  generalize itN n n.fRouters.length = l
  intro h hm
  refine (List.Pairwise.and_mem.1 h).imp fun {x y} ⟨hx, hy, ho⟩ he => ?_
  obtain ⟨r, i, h1, h2, h3, rfl⟩ := hm x hx
  obtain ⟨r', i', h4, h5, h6, rfl⟩ := hm y hy
  simp only [iord] at ho he ⊢
  rcases ho with ho | ⟨ho, ho2⟩
  · exact ho
  · obtain rfl : r = r' := by omega
    exact absurd he (ha r h1 i' h5 i (by omega) h6 h3)
theorem ends_up {n : TNetwork} (ha : ApartN n) {D : List TDomain} (h : Grp (itN n n.fRouters.length) D) {d : TDomain} (hd : d ∈ D) : (dends d).Pairwise fun a b => a.1 < b.1 := by
  rw [h.ends d hd]
  unfold sel
  rw [List.pairwise_map]
  refine (List.Pairwise.and_mem.1 ((itN_up ha).filter _)).imp fun {x y} ⟨hx, hy, ho⟩ => ?_
  simp only [List.mem_filter, decide_eq_true_eq] at hx hy
  exact ho (hx.2.trans hy.2.symm)
end Nv
