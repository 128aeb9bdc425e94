/- The plain law of ModelSpoiled: a valid router with one spoiled part is refused with the documented error. No condition but the bounds of what comes in. -/
import Derived.Test.YtmangnohekiphaaGreatNvT2
import Derived.Test.YtmangnohekiphaaGreatNvLW
import Derived.Test.YtmangnohekiphaaGreatNvQ1
import Derived.Test.YtmangnohekiphaaGreatNvQ2
import Derived.KernelRfl
namespace Nv
open Go
theorem chk_none {g : Nat → Option (Unit ⊕ Int)} {n : Nat} (h0 : ∀ i y, g i = some y → ∃ e, y = .inr e ∧ e ≠ 0) (h : Sum.elim (fun _ => (0 : Int)) (fun y => y) (runN g (.inl ()) 0 n) = 0) : ∀ i, i < n → g i = none := by
  rcases runN_cases g (.inl ()) n 0 with ⟨j, h1, h2, h3, h4⟩ | ⟨h1, h2⟩
  · obtain ⟨e, he, hne⟩ := h0 _ _ h3
    rw [he] at h
    exact absurd h hne
  · exact fun i hi => h2 i (Nat.zero_le _) (by omega)
theorem chk_eq (a : TRouter) : S.ref8_CheckRouter a = bif !S.ref4_Name a.fName then 3 else (bif !S.ref8_within a.fAS 0 65535 then 1 else fnz [S.ref8_interfaces a.fInterfaces, S.ref8_prefixLists a.fLists, S.ref8_routeMaps a, S.ref8_accessLists a.fACLs, S.ref8_translations a, S.ref8_filters a, S.ref8_statics a, S.ref8_linkState a, S.ref8_distance a, S.ref8_pathVector a]) := by
  unfold S.ref8_CheckRouter
  simp only [letS]
  rw [← runN_fnz]
  rfl
theorem fnz_zero : ∀ {l : List Int}, fnz l = 0 → ∀ x ∈ l, x = 0
  | [], _, x, hx => by cases hx
  | y :: l, h, x, hx => by
    unfold fnz at h
    cases hb : y != 0 with
    | true =>
      rw [hb] at h
      simp only [cond_true] at h
      simp [h] at hb
    | false =>
      rw [hb] at h
      rcases List.mem_cons.1 hx with rfl | hx
      · simpa using hb
      · exact fnz_zero h x hx
structure OkR (a : TRouter) : Prop where
  name : S.ref4_Name a.fName = true
  asn : S.ref8_within a.fAS 0 65535 = true
  ifs : S.ref8_interfaces a.fInterfaces = 0
  lists : S.ref8_prefixLists a.fLists = 0
  maps : S.ref8_routeMaps a = 0
  acls : S.ref8_accessLists a.fACLs = 0
  nat : S.ref8_translations a = 0
  filt : S.ref8_filters a = 0
  stat : S.ref8_statics a = 0
  ls : S.ref8_linkState a = 0
  dv : S.ref8_distance a = 0
theorem okr_of {a : TRouter} (h : S.ref8_CheckRouter a = 0) : OkR a := by
  rw [chk_eq] at h
  cases h1 : S.ref4_Name a.fName with
  | false => rw [h1] at h; simp at h
  | true =>
    cases h2 : S.ref8_within a.fAS 0 65535 with
    | false => rw [h1, h2] at h; simp at h
    | true =>
      rw [h1, h2] at h
      have hz := fnz_zero h
      exact ⟨h1, h2, hz _ (by simp), hz _ (by simp), hz _ (by simp), hz _ (by simp), hz _ (by simp), hz _ (by simp), hz _ (by simp), hz _ (by simp), hz _ (by simp)⟩
theorem runN_hit {β : Type} {g : Nat → Option β} {e y : β} {n j : Nat} (hj : j < n) (h : g j = some y) (hb : ∀ i, i < j → g i = none) : runN g e 0 n = y := by
  rcases runN_cases g e n 0 with ⟨k, h1, h2, h3, h4⟩ | ⟨h1, h2⟩
  · rcases Nat.lt_trichotomy k j with h5 | h5 | h5
    · rw [hb k h5] at h3; cases h3
    · subst h5; rw [h] at h3; exact (Option.some.inj h3).symm
    · rw [h4 j (Nat.zero_le _) h5] at h; cases h
  · rw [h2 j (Nat.zero_le _) (by omega)] at h; cases h
theorem runN_none {β : Type} {g : Nat → Option β} {e : β} {n : Nat} (hb : ∀ i, i < n → g i = none) : runN g e 0 n = e := by
  rcases runN_cases g e n 0 with ⟨k, h1, h2, h3, h4⟩ | ⟨h1, h2⟩
  · rw [hb k (by omega)] at h3; cases h3
  · exact h1
theorem if_l2 (l : List TInterface) (i : Nat) : runN (S.ref8_interfaces_l2 l i) (.inl ()) 0 i = bif anyN (fun k => strEq (l.getD k default).fName (l.getD i default).fName) i then .inr 4 else .inl () := runN_any _ _ _ _
theorem if_l3 (l : List TInterface) (i : Nat) : runN (S.ref8_interfaces_l3 l i) (.inl ()) 0 i = .inl () ∨ runN (S.ref8_interfaces_l3 l i) (.inl ()) 0 i = .inr 6 := by
  rcases runN_cases (S.ref8_interfaces_l3 l i) (.inl ()) i 0 with ⟨k, h1, h2, h3, h4⟩ | ⟨h1, h2⟩
  · right
    revert h3
    generalize runN (S.ref8_interfaces_l3 l i) (.inl ()) 0 i = y
    intro h3
    unfold S.ref8_interfaces_l3 at h3
    simp only [letS] at h3
    revert h3
    generalize (_ && _ : Bool) = b
    cases b
    · intro h; cases h
    · intro h; cases h; rfl
  · exact .inl h1
theorem cond_val {c : Bool} {x : Option (Unit ⊕ Int)} {y : Unit ⊕ Int} (h : (bif c then some (.inr 1) else x) = some y) : y = .inr 1 ∨ x = some y := by
  cases c
  · exact .inr h
  · cases h; exact .inl rfl
theorem pos_of {n : Nat} (h : ((n : Int) == 0) = false) : 0 < n := by
  rcases Nat.eq_zero_or_pos n with e | e
  · rw [e] at h; cases h
  · exact e
theorem if_val (l : List TInterface) (i : Nat) (y : Unit ⊕ Int) (h : S.ref8_interfaces_l1 l i = some y) : ∃ e, y = .inr e ∧ e ≠ 0 := by
  unfold S.ref8_interfaces_l1 at h
  simp only [letS] at h
  rw [if_l2] at h
  revert h
  cases S.ref4_Name (l.getD i default).fName with
  | false => intro h; cases h; exact ⟨3, rfl, by decide⟩
  | true =>
    cases anyN (fun k => strEq (l.getD k default).fName (l.getD i default).fName) i with
    | true => intro h; cases h; exact ⟨4, rfl, by decide⟩
    | false =>
      simp only [Bool.not_true, cond_false, Sum.elim_inl]
      intro h
      rcases cond_val h with e | h
      · exact ⟨1, e, by decide⟩
      rcases cond_val h with e | h
      · exact ⟨1, e, by decide⟩
      rcases cond_val h with e | h
      · exact ⟨1, e, by decide⟩
      rcases if_l3 l i with e | e <;> rw [e] at h <;> cases h
      exact ⟨6, rfl, by decide⟩
theorem if_rounds {l : List TInterface} (h : S.ref8_interfaces l = 0) : l.length ≤ 8 ∧ ∀ i, i < l.length → S.ref8_interfaces_l1 l i = none := by
  unfold S.ref8_interfaces at h
  cases hc : decide ((l.length : Int) > 8) with
  | true => rw [hc] at h; simp at h
  | false =>
    rw [hc] at h
    simp only [cond_false, letS] at h
    exact ⟨by have := of_decide_eq_false hc; omega, chk_none (if_val l) h⟩
theorem if_name {l : List TInterface} {i : Nat} (h : S.ref8_interfaces_l1 l i = none) : S.ref4_Name (l.getD i default).fName = true := by
  unfold S.ref8_interfaces_l1 at h
  simp only [letS] at h
  cases hn : S.ref4_Name (l.getD i default).fName with
  | true => rfl
  | false => rw [hn] at h; cases h
theorem if_run {l : List TInterface} (hl : l.length ≤ 8) : S.ref8_interfaces l = Sum.elim (fun _ => 0) (fun y => y) (runN (S.ref8_interfaces_l1 l) (.inl ()) 0 l.length) := by
  unfold S.ref8_interfaces
  rw [decide_eq_false (by omega)]
  rfl
theorem if_same {l l' : List TInterface} {i : Nat} (h : ∀ k, k ≤ i → l'.getD k default = l.getD k default) : S.ref8_interfaces_l1 l' i = S.ref8_interfaces_l1 l i := by
  have hi := h i (Nat.le_refl _)
  have e3 : runN (S.ref8_interfaces_l3 l' i) (.inl ()) 0 i = runN (S.ref8_interfaces_l3 l i) (.inl ()) 0 i := runN_congr0 fun k hk => by
    unfold S.ref8_interfaces_l3
    rw [hi, h k (by omega)]
  have e2 : runN (S.ref8_interfaces_l2 l' i) (.inl ()) 0 i = runN (S.ref8_interfaces_l2 l i) (.inl ()) 0 i := runN_congr0 fun k hk => by
    unfold S.ref8_interfaces_l2
    rw [hi, h k (by omega)]
  unfold S.ref8_interfaces_l1
  rw [hi, e2, e3]
theorem getD_app_lt {α : Type} [Inhabited α] (l m : List α) {k : Nat} (h : k < l.length) : (l ++ m).getD k default = l.getD k default := by
  rw [List.getD_eq_getElem?_getD, List.getD_eq_getElem?_getD, List.getElem?_append_left h]
theorem getD_app_eq {α : Type} [Inhabited α] (l : List α) (x : α) : (l ++ [x]).getD l.length default = x := by
  simp
theorem if_twice {l : List TInterface} (h : S.ref8_interfaces l = 0) (hp : 0 < l.length) : S.ref8_interfaces (l ++ [l.getD 0 default]) = bif decide (((l ++ [l.getD 0 default]).length : Int) > 8) then 7 else 4 := by
  obtain ⟨h8, hr⟩ := if_rounds h
  cases hc : decide (((l ++ [l.getD 0 default]).length : Int) > 8) with
  | true => unfold S.ref8_interfaces; rw [hc]; rfl
  | false =>
    have hlen : (l ++ [l.getD 0 default]).length = l.length + 1 := by simp
    rw [if_run (by have := of_decide_eq_false hc; omega), runN_hit (j := l.length) (y := .inr 4) (by omega)]
    · rfl
    · unfold S.ref8_interfaces_l1
      simp only [letS]
      rw [if_l2, getD_app_eq, if_name (hr 0 hp), anyN_true.2 ⟨0, hp, by rw [getD_app_lt _ _ hp]; exact strEq_rfl _⟩]
      rfl
    · intro i hi
      rw [if_same fun k hk => getD_app_lt _ _ (by omega)]
      exact hr i hi
theorem getD_set0 {α : Type} [Inhabited α] (l : List α) (x : α) (hp : 0 < l.length) : (l.set 0 x).getD 0 default = x := by
  simp [List.getD_eq_getElem?_getD, List.getElem?_set, hp]
theorem getD_set_ne {α : Type} [Inhabited α] (l : List α) (x : α) {k : Nat} (hk : k ≠ 0) : (l.set 0 x).getD k default = l.getD k default := by
  rw [List.getD_eq_getElem?_getD, List.getD_eq_getElem?_getD, List.getElem?_set_ne (Ne.symm hk)]
theorem if_long {l : List TInterface} (h : S.ref8_interfaces l = 0) (hp : 0 < l.length) (x : TInterface) (hn : x.fName = (l.getD 0 default).fName) (hx : x.fLen = 33) : S.ref8_interfaces (l.set 0 x) = 1 := by
  obtain ⟨h8, hr⟩ := if_rounds h
  rw [if_run (by simpa using h8), runN_hit (j := 0) (y := .inr 1) (by simpa using hp)]
  · rfl
  · unfold S.ref8_interfaces_l1
    simp only [letS]
    rw [getD_set0 _ _ hp, hn, if_name (hr 0 hp), hx]
    rfl
  · intro i hi; omega
theorem if_in {l : List TInterface} (h : S.ref8_interfaces l = 0) (hp : 0 < l.length) (x : TInterface) (h1 : x.fName = (l.getD 0 default).fName) (h2 : x.fAddr = (l.getD 0 default).fAddr) (h3 : x.fLen = (l.getD 0 default).fLen)
    (h4 : x.fVLAN = (l.getD 0 default).fVLAN) (h5 : x.fLS = (l.getD 0 default).fLS) (h6 : x.fArea = (l.getD 0 default).fArea) (h7 : x.fCost = (l.getD 0 default).fCost) (h8 : x.fSide = (l.getD 0 default).fSide) (hz : ((l.getD 0 default).fLen == 0) = false) : S.ref8_interfaces (l.set 0 x) = 0 := by
  obtain ⟨hl, hr⟩ := if_rounds h
  have e1 : ∀ k, ((l.set 0 x).getD k default).fName = (l.getD k default).fName := fun k => by
    by_cases hk : k = 0
    · subst hk; rw [getD_set0 _ _ hp, h1]
    · rw [getD_set_ne _ _ hk]
  have e2 : ∀ k, ((l.set 0 x).getD k default).fAddr = (l.getD k default).fAddr := fun k => by
    by_cases hk : k = 0
    · subst hk; rw [getD_set0 _ _ hp, h2]
    · rw [getD_set_ne _ _ hk]
  have e3 : ∀ k, ((l.set 0 x).getD k default).fLen = (l.getD k default).fLen := fun k => by
    by_cases hk : k = 0
    · subst hk; rw [getD_set0 _ _ hp, h3]
    · rw [getD_set_ne _ _ hk]
  rw [if_run (by simpa using hl), runN_none]
  · rfl
  · intro i hi
    rw [List.length_set] at hi
    have r := hr i hi
    have f3 : runN (S.ref8_interfaces_l3 (l.set 0 x) i) (.inl ()) 0 i = runN (S.ref8_interfaces_l3 l i) (.inl ()) 0 i := runN_congr0 fun k hk => by
      unfold S.ref8_interfaces_l3
      simp only [e2, e3]
    have f2 : runN (S.ref8_interfaces_l2 (l.set 0 x) i) (.inl ()) 0 i = runN (S.ref8_interfaces_l2 l i) (.inl ()) 0 i := runN_congr0 fun k hk => by
      unfold S.ref8_interfaces_l2
      simp only [e1]
    by_cases hk : i = 0
    · subst hk
      unfold S.ref8_interfaces_l1 at r ⊢
      simp only [letS] at r ⊢
      rw [f2, f3, getD_set0 _ _ hp]
      simp only [h1, h2, h3, h4, h5, h6, h7, h8, hz, Bool.false_and, Bool.false_or] at r ⊢
      exact r
    · unfold S.ref8_interfaces_l1 at r ⊢
      rw [f2, f3, getD_set_ne _ _ hk]
      exact r
theorem st_l2 (a : TRouter) (i : Nat) : runN (S.model_checkStatics_l2 a i) (.inl ()) 0 i = .inl () ∨ runN (S.model_checkStatics_l2 a i) (.inl ()) 0 i = .inr 6 := by
  rcases runN_cases (S.model_checkStatics_l2 a i) (.inl ()) i 0 with ⟨k, h1, h2, h3, h4⟩ | ⟨h1, h2⟩
  · right
    revert h3
    generalize runN (S.model_checkStatics_l2 a i) (.inl ()) 0 i = y
    intro h3
    unfold S.model_checkStatics_l2 at h3
    simp only [Bool.cond_eq_ite] at h3
    split at h3 <;> cases h3
    rfl
  · exact .inl h1
theorem st_val (a : TRouter) (i : Nat) (y : Unit ⊕ Int) (h : S.model_checkStatics_l1 a i = some y) : ∃ e, y = .inr e ∧ e ≠ 0 := by
  unfold S.model_checkStatics_l1 S.model_checkStatics_k1 at h
  simp only [letS, Bool.cond_eq_ite] at h
  rcases st_l2 a i with e | e <;> rw [e] at h <;> (repeat' split at h) <;> cases h <;> exact ⟨_, rfl, by decide⟩
theorem st_rounds {a : TRouter} (h : S.model_checkStatics a = 0) : ∀ i, i < a.fStatics.length → S.model_checkStatics_l1 a i = none := by
  unfold S.model_checkStatics at h
  cases hc : decide ((a.fStatics.length : Int) > 16) with
  | true => rw [hc] at h; simp at h
  | false =>
    rw [hc] at h
    simp only [cond_false, letS] at h
    exact chk_none (st_val a) h
theorem st_on {a : TRouter} {i : Nat} (h : S.model_checkStatics_l1 a i = none) (b : TRouter) (j : Nat) (hx : b.fStatics.getD j default = a.fStatics.getD i default) (hr : ∀ x, S.model_rightStatic b x = S.model_rightStatic a x) (hi : ∀ n, S.model_Interface b n = S.model_Interface a n) (hf : b.fInterfaces = a.fInterfaces) :
    S.model_checkStatics_l1 b j = S.model_checkStatics_k1 b j () := by
  unfold S.model_checkStatics_l1 at h ⊢
  rw [hx, hr, hi, hf]
  simp only [letS, Bool.cond_eq_ite] at h ⊢
  split
  · rename_i hc; rw [if_pos hc] at h; cases h
  · rename_i hc; rw [if_neg hc] at h
    split
    · rename_i hc; rw [if_pos hc] at h
      split
      · rename_i hc; rw [if_pos hc] at h; cases h
      · rename_i hc; rw [if_neg hc] at h
        split
        · rename_i hc; rw [if_pos hc] at h; cases h
        · rfl
    · rfl
theorem st_twice {a b : TRouter} (h : S.model_checkStatics a = 0) (hp : 0 < a.fStatics.length) (hm : a.fStatics.length < 16) (hb : b.fStatics = a.fStatics ++ [a.fStatics.getD 0 default]) (hr : ∀ x, S.model_rightStatic b x = S.model_rightStatic a x) (hi : ∀ n, S.model_Interface b n = S.model_Interface a n) (hf : b.fInterfaces = a.fInterfaces) :
    S.model_checkStatics b = 6 := by
  have hrd := st_rounds h
  have hlen : b.fStatics.length = a.fStatics.length + 1 := by rw [hb]; simp
  have hlt : ∀ k, k < a.fStatics.length → b.fStatics.getD k default = a.fStatics.getD k default := fun k hk => by rw [hb]; exact getD_app_lt _ _ hk
  unfold S.model_checkStatics
  rw [decide_eq_false (by omega)]
  simp only [cond_false, letS]
  rw [runN_hit (j := a.fStatics.length) (y := .inr 6) (by omega)]
  · rfl
  · have hx : b.fStatics.getD a.fStatics.length default = a.fStatics.getD 0 default := by rw [hb]; exact getD_app_eq _ _
    rw [st_on (hrd 0 hp) b _ hx hr hi hf]
    unfold S.model_checkStatics_k1
    simp only [letS]
    rw [runN_hit (j := 0) (y := .inr 6) hp]
    · rfl
    · unfold S.model_checkStatics_l2
      rw [take_getD _ hp, hx, hlt 0 hp]
      simp
    · intro i hi; omega
  · intro j hj
    have h1 := hrd j hj
    rw [st_on h1 b j (hlt j hj) hr hi hf]
    rw [st_on h1 a j rfl (fun _ => rfl) (fun _ => rfl) rfl] at h1
    unfold S.model_checkStatics_k1 at h1 ⊢
    rw [runN_congr0 (g' := S.model_checkStatics_l2 a j)]
    · exact h1
    · intro k hk
      unfold S.model_checkStatics_l2
      rw [take_getD _ hk, take_getD _ hk, hlt k (by omega), hlt j hj]
def nosuch : ByteArray := ⟨#[110, 111, 45, 115, 117, 99, 104, 45, 108, 105, 115, 116]⟩
def inn (x : TInterface) : TInterface := ⟨x.fName, x.fAddr, x.fLen, x.fVLAN, x.fDown, x.fLS, x.fArea, x.fCost, x.fDV, nosuch, x.fOut, x.fSide⟩
def spo (a : TRouter) (n : ByteArray) (as : Int) (ifs : List TInterface) (sts : List TStaticRoute) (adm : Int) : TRouter :=
  ⟨n, as, ifs, a.fLists, a.fMaps, a.fACLs, a.fNAT, sts, a.fLS, ⟨a.fDV.fOn, adm, a.fDV.fIn, a.fDV.fOut, a.fDV.fRedist⟩, a.fPV⟩
section
variable {a : TRouter} {n : ByteArray} {as : Int} {ifs : List TInterface} {sts : List TStaticRoute} {adm : Int}
theorem spo_maps : S.ref8_routeMaps (spo a n as ifs sts adm) = S.ref8_routeMaps a := by kernel_rfl
theorem spo_nat : S.ref8_translations (spo a n as ifs sts adm) = S.ref8_translations a := by kernel_rfl
theorem spo_ls : S.ref8_linkState (spo a n as ifs sts adm) = S.ref8_linkState a := by kernel_rfl
theorem spo_filt : S.ref8_filters (spo a n as a.fInterfaces sts adm) = S.ref8_filters a := by kernel_rfl
theorem spo_stat : S.ref8_statics (spo a n as a.fInterfaces a.fStatics adm) = S.ref8_statics a := by kernel_rfl
theorem spo_dv : S.ref8_distance (spo a n as ifs sts a.fDV.fAdmin) = S.ref8_distance a := by kernel_rfl
theorem chk_spo (hn : S.ref4_Name n = true) (hs : S.ref8_within as 0 65535 = true) : S.ref8_CheckRouter (spo a n as ifs sts adm) = fnz [S.ref8_interfaces ifs, S.ref8_prefixLists a.fLists, S.ref8_routeMaps a, S.ref8_accessLists a.fACLs, S.ref8_translations a, S.ref8_filters (spo a n as ifs sts adm), S.ref8_statics (spo a n as ifs sts adm), S.ref8_linkState a, S.ref8_distance (spo a n as ifs sts adm), S.ref8_pathVector (spo a n as ifs sts adm)] := by
  rw [chk_eq, spo_maps, spo_nat, spo_ls]
  show (bif !S.ref4_Name n then 3 else (bif !S.ref8_within as 0 65535 then (1 : Int) else _)) = _
  rw [hn, hs]
  rfl
end
theorem k1_ok {a : TRouter} (ha : L_TRouter a) (s : SmallR a) (w : Int) (n : ByteArray) (as : Int) (ifs : List TInterface) (sts : List TStaticRoute) (adm : Int) (hn : n.size ≤ maxLen) (hi : LL L_TInterface ifs) (ht : LL L_TStaticRoute sts)
    (h : S.ref8_CheckRouter (spo a n as ifs sts adm) = w) : M.law5_ModelSpoiled_k1 a (w, n, as, ifs, sts, adm) = some true := by
  have hL : L_TRouter (spo a n as ifs sts adm) := ⟨hn, hi, ha.2.2.1, ha.2.2.2.1, ha.2.2.2.2.1, ha.2.2.2.2.2.1, ht, ha.2.2.2.2.2.2.2.1, ha.2.2.2.2.2.2.2.2.1, ha.2.2.2.2.2.2.2.2.2⟩
  have h1 : M.model_CheckRouter (spo a n as ifs sts adm) = some w := by
    rw [s_model_CheckRouter _ hL, q_CheckRouter _ ⟨by have := s.nb; show a.fPV.fNeighbors.length ≤ 100; omega, by have := s.nw; show a.fPV.fNetworks.length ≤ 100; omega, by have := s.ag; show a.fPV.fAggregates.length ≤ 100; omega, by have := s.cd; show a.fPV.fConditions.length ≤ 100; omega, by have := s.pvr; show a.fPV.fRedist.length ≤ 100; omega⟩, h]
  have h2 : M.law5_sane = some true := by rw [s_law5_sane, sane_true]
  unfold M.law5_ModelSpoiled_k1
  show ((M.model_CheckRouter (spo a n as ifs sts adm)).bind _) = _
  rw [h1, h2]
  simp [gc]
theorem plain_ModelSpoiled (a0 : TRouter) (a1 a2 : Int) (w0 : W_TRouter a0) (_w1 : (Lit.int .i64 a1).wf = true) (_w2 : (Lit.int .i64 a2).wf = true) : M.law5_ModelSpoiled a0 a1 a2 = some true := by
  have ha := LofW_TRouter w0
  have hI := ha.2.1
  have hS := ha.2.2.2.2.2.2.1
  unfold M.law5_ModelSpoiled
  rw [s_law5_Small a0 ha]
  cases hs : S.law5_Small a0 with
  | false => simp [gc]
  | true =>
    have s := small_of hs
    rw [s_ref8_CheckRouter a0 ha]
    simp only [Option.bind_some, Bool.not_true, Bool.not_false, gc, cond_true, Bool.false_or]
    cases hz : S.ref8_CheckRouter a0 != 0 with
    | true => rfl
    | false =>
      have ok := okr_of (by simpa using hz)
      simp only [cond_false]
      have b1 := s.ifs
      have b2 := s.stat
      have e0 : (0 + (0 : Int).toNat) = 0 := rfl
      simp only [e0]
      refine s_gd (all_c (by simp) (all_c (dt (by omega)) all_n)) ?_
      refine s_gd (all_c (by simp) (all_c (dt (by omega)) all_n)) ?_
      have hIx : L_TInterface (a0.fInterfaces.getD 0 default) := hI.getD L_TInterface.dflt 0
      have hML := maxLen_eq
      cases a1 == 0 with
      | true =>
        simp only [cond_true]
        exact k1_ok ha s _ _ _ _ _ _ (Nat.zero_le _) hI hS (by rw [chk_eq]; rfl)
      | false =>
      cases a1 == 1 with
      | true =>
        simp only [cond_true, cond_false]
        cases hv : (decide (a2 ≥ 0)) && (decide (a2 ≤ 65535)) with
        | true => rfl
        | false =>
          refine k1_ok ha s _ _ _ _ _ _ ha.1 hI hS ?_
          have hv' : S.ref8_within a2 0 65535 = false := hv
          rw [chk_eq]
          show (bif !S.ref4_Name a0.fName then 3 else (bif !S.ref8_within a2 0 65535 then (1 : Int) else _)) = 1
          rw [ok.name, hv']
          rfl
      | false =>
      cases a1 == 2 with
      | true =>
        simp only [cond_true, cond_false]
        cases hl : (a0.fInterfaces.length : Int) == 0 with
        | true => rfl
        | false =>
          have hp := pos_of hl
          refine s_gd (all_c (dt (by omega)) (all_c (dt (by omega)) (all_c (dt (by omega)) all_n))) ?_
          have hLI : LL L_TInterface (a0.fInterfaces ++ [a0.fInterfaces.getD 0 default]) := ⟨by simp; omega, fun x hx => by
            rcases List.mem_append.1 hx with h | h
            · exact hI.2 x h
            · rw [List.mem_singleton.1 h]; exact hIx⟩
          have ht := if_twice ok.ifs hp
          cases hc : decide (((a0.fInterfaces ++ [a0.fInterfaces.getD 0 default]).length : Int) > 8) with
          | true =>
            rw [hc] at ht
            refine k1_ok ha s _ _ _ _ _ _ ha.1 hLI hS ?_
            rw [chk_spo ok.name ok.asn, ht]
            rfl
          | false =>
            rw [hc] at ht
            refine k1_ok ha s _ _ _ _ _ _ ha.1 hLI hS ?_
            rw [chk_spo ok.name ok.asn, ht]
            rfl
      | false =>
      cases a1 == 3 with
      | true =>
        simp only [cond_true, cond_false]
        cases hl : (a0.fInterfaces.length : Int) == 0 with
        | true => rfl
        | false =>
          have hp := pos_of hl
          refine s_gd (all_c (dt (by omega)) (all_c (dt (by omega)) all_n)) ?_
          refine k1_ok ha s _ _ _ _ _ _ ha.1 ⟨by simp; omega, fun x hx => ?_⟩ hS ?_
          · rcases List.mem_or_eq_of_mem_set hx with h | h
            · exact hI.2 x h
            · rw [h]; exact ⟨hIx.1, hIx.2.1, hIx.2.2⟩
          · rw [chk_spo ok.name ok.asn, if_long ok.ifs hp ⟨_, _, 33, _, _, _, _, _, _, _, _, _⟩ rfl rfl]
            rfl
      | false =>
      cases a1 == 4 with
      | true =>
        simp only [cond_true, cond_false]
        refine s_gd (all_c (s_guard fun hg => dt (by omega)) (all_c (s_guard fun hg => dt (by have := pos_of (n := a0.fInterfaces.length) (by revert hg; cases ((a0.fInterfaces.length : Int) == 0) <;> simp); omega)) all_n)) ?_
        cases hl : ((a0.fInterfaces.length : Int) == 0) || ((a0.fInterfaces.getD 0 default).fLen == 0) with
        | true => rfl
        | false =>
          obtain ⟨hl1, hl2⟩ := Bool.or_eq_false_iff.1 hl
          have hp := pos_of hl1
          refine s_gd (all_c (dt (by omega)) (all_c (dt (by omega)) all_n)) ?_
          have hLI : LL L_TInterface (a0.fInterfaces.set 0 (inn (a0.fInterfaces.getD 0 default))) :=
            ⟨by simp; omega, fun x hx => by
              rcases List.mem_or_eq_of_mem_set hx with h | h
              · exact hI.2 x h
              · rw [h]; exact ⟨hIx.1, Nat.le_of_ble_eq_true rfl, hIx.2.2⟩⟩
          have hL : L_TRouter (spo a0 a0.fName a0.fAS (a0.fInterfaces.set 0 (inn (a0.fInterfaces.getD 0 default))) a0.fStatics a0.fDV.fAdmin) := ⟨ha.1, hLI, ha.2.2.1, ha.2.2.2.1, ha.2.2.2.2.1, ha.2.2.2.2.2.1, hS, ha.2.2.2.2.2.2.2.1, ha.2.2.2.2.2.2.2.2.1, ha.2.2.2.2.2.2.2.2.2⟩
          have hacl : M.ref8_ACL (spo a0 a0.fName a0.fAS (a0.fInterfaces.set 0 (inn (a0.fInterfaces.getD 0 default))) a0.fStatics a0.fDV.fAdmin) nosuch = some _ := s_ref8_ACL _ _ hL (Nat.le_of_ble_eq_true rfl)
          show ((M.ref8_ACL (spo a0 a0.fName a0.fAS (a0.fInterfaces.set 0 (inn (a0.fInterfaces.getD 0 default))) a0.fStatics a0.fDV.fAdmin) nosuch).bind (fun r6 => bif decide (r6 ≥ 0) then some true else M.law5_ModelSpoiled_k1 a0 (5, a0.fName, a0.fAS, a0.fInterfaces.set 0 (inn (a0.fInterfaces.getD 0 default)), a0.fStatics, a0.fDV.fAdmin))) = _
          rw [hacl]
          simp only [Option.bind_some]
          cases hg : decide (S.ref8_ACL (spo a0 a0.fName a0.fAS (a0.fInterfaces.set 0 (inn (a0.fInterfaces.getD 0 default))) a0.fStatics a0.fDV.fAdmin) nosuch ≥ 0) with
          | true => rfl
          | false =>
            simp only [cond_false]
            refine k1_ok ha s _ _ _ _ _ _ ha.1 hLI hS ?_
            have hf : S.ref8_filters (spo a0 a0.fName a0.fAS (a0.fInterfaces.set 0 (inn (a0.fInterfaces.getD 0 default))) a0.fStatics a0.fDV.fAdmin) = 5 := by
              unfold S.ref8_filters
              simp only [letS]
              rw [runN_hit (j := 0) (y := .inr 5) (by simpa [spo] using hp)]
              · rfl
              · unfold S.ref8_filters_l1
                have ei : ((spo a0 a0.fName a0.fAS (a0.fInterfaces.set 0 (inn (a0.fInterfaces.getD 0 default))) a0.fStatics a0.fDV.fAdmin).fInterfaces.getD 0 default).fIn = nosuch := by
                  show ((a0.fInterfaces.set 0 (inn (a0.fInterfaces.getD 0 default))).getD 0 default).fIn = _
                  rw [getD_set0 _ _ hp]
                  rfl
                have es : strEq nosuch (⟨#[]⟩ : ByteArray) = false := by kernel_rfl
                have hg2 : decide (S.ref8_ACL (spo a0 a0.fName a0.fAS (a0.fInterfaces.set 0 (inn (a0.fInterfaces.getD 0 default))) a0.fStatics a0.fDV.fAdmin) nosuch < 0) = true := by
                  rw [ge_not_lt] at hg
                  simpa using hg
                simp only [letS, ei, es, Bool.not_false, cond_true, hg2]
                rfl
              · intro i hi; omega
            rw [chk_spo ok.name ok.asn, if_in ok.ifs hp (inn (a0.fInterfaces.getD 0 default)) rfl rfl rfl rfl rfl rfl rfl rfl hl2, ok.lists, ok.maps, ok.acls, ok.nat, hf]
            rfl
      | false =>
      cases a1 == 5 with
      | true =>
        simp only [cond_true, cond_false]
        cases hl : ((a0.fStatics.length : Int) == 0) || (decide ((a0.fStatics.length : Int) ≥ 16)) with
        | true => rfl
        | false =>
          obtain ⟨hl1, hl2⟩ := Bool.or_eq_false_iff.1 hl
          have hp := pos_of hl1
          have hm : a0.fStatics.length < 16 := by have := of_decide_eq_false hl2; omega
          refine s_gd (all_c (dt (by omega)) (all_c (dt (by omega)) (all_c (dt (by omega)) all_n))) ?_
          have hst := st_twice (a := a0) (b := spo a0 a0.fName a0.fAS a0.fInterfaces (a0.fStatics ++ [a0.fStatics.getD 0 default]) a0.fDV.fAdmin) (by rw [q_statics]; exact ok.stat) hp hm rfl (fun x => by kernel_rfl) (fun x => by kernel_rfl) rfl
          rw [q_statics] at hst
          refine k1_ok ha s _ _ _ _ _ _ ha.1 hI ⟨by simp; omega, fun x hx => ?_⟩ ?_
          · rcases List.mem_append.1 hx with h | h
            · exact hS.2 x h
            · rw [List.mem_singleton.1 h]; exact hS.getD L_TStaticRoute.dflt 0
          · rw [chk_spo ok.name ok.asn, ok.ifs, ok.lists, ok.maps, ok.acls, ok.nat, spo_filt, ok.filt, hst]
            rfl
      | false =>
      cases a1 == 6 with
      | true =>
        simp only [cond_true, cond_false]
        cases hl : a0.fDV.fOn with
        | true => rfl
        | false =>
          refine k1_ok ha s _ _ _ _ _ _ ha.1 hI hS ?_
          have hd : S.ref8_distance (spo a0 a0.fName a0.fAS a0.fInterfaces a0.fStatics 5) = 1 := by
            unfold S.ref8_distance
            show (bif !a0.fDV.fOn then _ else _) = _
            rw [hl]
            rfl
          rw [chk_spo ok.name ok.asn, ok.ifs, ok.lists, ok.maps, ok.acls, ok.nat, spo_filt, ok.filt, spo_stat, ok.stat, ok.ls, hd]
          rfl
      | false =>
      cases a1 == 7 with
      | true =>
        simp only [cond_true, cond_false]
        cases hl : a0.fPV.fOn with
        | false => rfl
        | true =>
          simp only [Bool.not_true, cond_false]
          refine k1_ok ha s _ _ _ _ _ _ ha.1 hI hS ?_
          have hd : S.ref8_pathVector (spo a0 a0.fName 0 a0.fInterfaces a0.fStatics a0.fDV.fAdmin) = 1 := by
            unfold S.ref8_pathVector
            show (bif !a0.fPV.fOn then _ else _) = _
            rw [hl]
            rfl
          rw [chk_spo ok.name rfl, ok.ifs, ok.lists, ok.maps, ok.acls, ok.nat, spo_filt, ok.filt, spo_stat, ok.stat, ok.ls, spo_dv, ok.dv, hd]
          rfl
      | false => rfl
end Nv
