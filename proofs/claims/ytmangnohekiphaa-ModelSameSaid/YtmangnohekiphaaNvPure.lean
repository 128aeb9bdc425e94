/- Operations that change no object: what they give, on abstract values; and that the model's operation gives a value of that description. -/
import Derived.Test.YtmangnohekiphaaNvCore
namespace Nv
open Go Go.RowKit

def dvc : Value → D
  | .int k n => .int k n
  | .bool b => .bool b
  | .string s => .str s
  | .pointer none => .nilp
  | .slice none 0 0 => .nils
  | _ => .any
def dv : Value → D
  | .agg cs => .agg (cs.toList.map dvc)
  | v => dvc v

theorem cv_dvc (c : Ctx) (v : Value) : CV c v (dvc v) := by
  unfold dvc
  split <;> simp only [CV]
  · exact .int _ _
  · exact .bool _
  · exact .str _
  · exact .nilp
  · exact .nils
  · exact .any _
theorem tv_of_cv {c : Ctx} {v : Value} {d : D} (h : CV c v d) (hd : ∀ cs, d ≠ .agg cs) (hf : ∀ f cs, d ≠ .fn f cs) (ht : ∀ ds, d ≠ .tup ds) : TV c v d := by
  cases d <;> first | exact absurd rfl (hd _) | exact absurd rfl (hf _ _) | exact absurd rfl (ht _) | exact h
theorem cv_not_agg {c : Ctx} {v : Value} {cs : List D} : ¬ CV c v (.agg cs) := by intro h; simp only [CV] at h; cases h
theorem cv_not_tup {c : Ctx} {v : Value} {cs : List D} : ¬ CV c v (.tup cs) := by intro h; simp only [CV] at h; cases h
theorem cv_not_opt {c : Ctx} {v : Value} {j : Nat} {b : Bool} {d : D} : ¬ CV c v (.opt j b d) := by intro h; simp only [CV] at h; cases h
theorem av_of_cv {c : Ctx} {v : Value} {d : D} (h : CV c v d) : AV c v d := by
  cases d <;> first | exact absurd h cv_not_agg | exact h | skip
  simp only [CV] at h
  cases h
  exact ⟨#[], rfl, rfl, fun i v d h1 _ => by simp at h1⟩
theorem tv_of_av {c : Ctx} {v : Value} {d : D} (h : AV c v d) : TV c v d := by
  cases d <;> first | exact h | skip
  exact absurd h (by simp only [AV]; exact cv_not_tup)
theorem tv_cv {c : Ctx} {v : Value} {d : D} (h : CV c v d) : TV c v d := tv_of_av (av_of_cv h)
theorem tv_pv {c : Ctx} {v : Value} {d : D} (h : PV c.I c.w v d) : TV c v d := by
  apply tv_cv
  cases h <;> simp only [CV]
  case int k n => exact .int k n
  case bool b => exact .bool b
  case str s => exact .str s
  case nilp => exact .nilp
  case nils => exact .nils
  case nilq b n h => exact .nilq b n h
  case any => exact .any _
  case fn f => exact .fn f
  case sl a n cap wd full f g hfull hcap hb hw hone hv => exact .sl a n cap wd full f g hfull hcap hb hw hone hv
  case pp b off cs g hI hc hv => exact .pp b off cs g hI hc hv
theorem cv_pv {c : Ctx} {v : Value} {d : D} (h : PV c.I c.w v d) : CV c v d := by
  cases h <;> simp only [CV]
  case int k n => exact .int k n
  case bool b => exact .bool b
  case str s => exact .str s
  case nilp => exact .nilp
  case nils => exact .nils
  case nilq b n h => exact .nilq b n h
  case any => exact .any _
  case fn f => exact .fn f
  case sl a n cap wd full f g hfull hcap hb hw hone hv => exact .sl a n cap wd full f g hfull hcap hb hw hone hv
  case pp b off cs g hI hc hv => exact .pp b off cs g hI hc hv

theorem tv_dv (c : Ctx) (v : Value) : TV c v (dv v) := by
  unfold dv
  split
  · rename_i cs
    refine ⟨cs, rfl, by simp, fun i v d h1 h2 => ?_⟩
    simp only [List.getElem?_map, Array.getElem?_toList, h1, Option.map_some, Option.some.injEq] at h2
    subst h2
    exact cv_dvc c v
  · exact tv_cv (cv_dvc c v)

/-! inversions -/
section
variable {c : Ctx} {v : Value}
theorem TV.int_inv {k : IntKind} {n : Int} (h : TV c v (.int k n)) : v = .int k n := by simp only [TV, AV, CV] at h; cases h; rfl
theorem TV.bool_inv {b : Bool} (h : TV c v (.bool b)) : v = .bool b := by simp only [TV, AV, CV] at h; cases h; rfl
theorem TV.str_inv {s : ByteArray} (h : TV c v (.str s)) : v = .string s := by simp only [TV, AV, CV] at h; cases h; rfl
theorem TV.nilp_inv (h : TV c v .nilp) : v = .pointer none := by simp only [TV, AV, CV] at h; cases h; rfl
theorem TV.agg_inv {cs : List D} (h : TV c v (.agg cs)) : ∃ vs, v = .agg vs ∧ Vs (CV c) vs cs := h
theorem tv_int (k : IntKind) (n : Int) : TV c (.int k n) (.int k n) := by simp only [TV, AV, CV]; exact .int k n
theorem tv_bool (b : Bool) : TV c (.bool b) (.bool b) := by simp only [TV, AV, CV]; exact .bool b
theorem tv_str (s : ByteArray) : TV c (.string s) (.str s) := by simp only [TV, AV, CV]; exact .str s
theorem tv_any : TV c v .any := by simp only [TV, AV, CV]; exact .any v
end

/-! types -/
def szO (P : Program) (t : TypeId) : Option Nat := (P.info? t).map (·.size)
theorem run_sz {P : Program} {t : TypeId} {n : Nat} (h : szO P t = some n) (w : World) : (Go.sizeOf t).run P w = Result.ok n w := by
  unfold szO at h
  obtain ⟨i, hi, rfl⟩ := Option.map_eq_some_iff.1 h
  simp [Go.sizeOf, typeInfo, hi]
def aggB : TypeDesc → Bool
  | .struct _ | .array _ _ => true
  | _ => false
theorem run_agg {P : Program} {t : TypeId} {d : TypeDesc} (h : P.underlying t = some d) (w : World) : (isAgg t).run P w = .ok (aggB d) w := by
  cases d <;> simp [isAgg, run_underlying h, aggB]

/-- A slice constant that is nil, given its type's element size. -/
def adj (P : Program) (t : TypeId) (d : D) : D :=
  match d with
  | .nils => match P.underlying t with
    | some (.slice e) => .sl true (P.cellsOf e) 0 fun _ => []
    | _ => .nils
  | d => d
theorem pv_nils {I : Nat → Prop} {w : World} {v : Value} (h : PV I w v .nils) (full : Bool) (wd : Nat) (f : Nat → List D) : PV I w v (.sl full wd 0 f) := by
  cases h with
  | nils => exact .sl none 0 0 wd full f (fun _ _ => undef) (fun _ => rfl) (Nat.le_refl _) (fun h => by omega) (fun i hi => by omega) (fun i hi => by omega) (fun i hi => by omega)
theorem tv_adj {P : Program} {t : TypeId} {c : Ctx} {v : Value} {d : D} (h : TV c v d) : TV c v (adj P t d) := by
  unfold adj
  split
  · split
    · simp only [TV, AV, CV] at h ⊢; exact pv_nils h _ _ _
    · exact h
  · exact h

/-! reading cells -/
def ldD (P : Program) (t : TypeId) (cs : List D) : Option D :=
  match P.underlying t with
  | some d => bif aggB d then
      (match szO P t with
      | some k => bif Nat.ble k cs.length then some (.agg (cs.take k)) else none
      | none => none)
    else cs.head?.map (adj P t)
  | none => none

theorem add_zero_addr (b off j : Nat) : Addr.add ⟨b, off, none⟩ j = ⟨b, off + j, none⟩ := by
  unfold Addr.add
  split
  · rename_i h; subst h; rfl
  · rfl

theorem run_ldD {P : Program} {t : TypeId} {cs : List D} {d : D} (h : ldD P t cs = some d) {c : Ctx} {b off : Nat} {g : Nat → Value}
    (hc : ∀ j, j < cs.length → c.w.cell? ⟨b, off + j, none⟩ = some (g j)) (hv : ∀ j d, cs[j]? = some d → CV c (g j) d) :
    ∃ v, (loadVar t ⟨b, off, none⟩).run P c.w = .ok v c.w ∧ TV c v d := by
  unfold ldD at h
  cases hu : P.underlying t with
  | none => simp [hu] at h
  | some de =>
    simp only [hu] at h
    have ha := run_agg hu c.w
    cases hb : aggB de with
    | true =>
      simp only [hb, cond_true] at h
      cases hs : szO P t with
      | none => simp [hs] at h
      | some k =>
        simp only [hs] at h
        cases hk : Nat.ble k cs.length with
        | false => simp [hk] at h
        | true =>
          simp only [hk, cond_true, Option.some.injEq] at h
          subst h
          have hk' : k ≤ cs.length := Nat.le_of_ble_eq_true hk
          refine ⟨.agg ((List.range k).map g).toArray, ?_, _, rfl, by simp; omega, fun i v d h1 h2 => ?_⟩
          · simp only [loadVar, Sem.run_bind, ha, hb, Result.andThen_ok, if_true, run_sz hs]
            rw [run_loadCells c.w ⟨b, off, none⟩ k g (fun j hj => by rw [add_zero_addr]; exact hc j (by omega))]
            rfl
          · have hi : i < k := by
              rcases Nat.lt_or_ge i k with h | h
              · exact h
              · simp [h] at h1
            simp [hi] at h1
            subst h1
            rw [List.getElem?_take_of_lt hi] at h2
            exact hv i d h2
    | false =>
      simp only [hb, cond_false] at h
      obtain ⟨d0, h0, rfl⟩ := Option.map_eq_some_iff.1 h
      have hl : 0 < cs.length := by cases cs with | nil => simp at h0 | cons _ _ => simp
      refine ⟨g 0, ?_, tv_adj (tv_cv (hv 0 d0 (by rw [← List.head?_eq_getElem?]; exact h0)))⟩
      have h1 := hc 0 hl
      simp only [Nat.add_zero] at h1
      simp only [loadVar, Sem.run_bind, ha, hb, Result.andThen_ok, Bool.false_eq_true, if_false, run_load, h1]

end Nv
