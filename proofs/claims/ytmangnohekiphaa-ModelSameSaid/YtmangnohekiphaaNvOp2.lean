/- One operation that changes no object: all of them. -/
import Derived.Test.YtmangnohekiphaaNvOp
namespace Nv
open Go Go.RowKit

def sameOpd : Operand → Operand → Bool
  | .tmp a, .tmp b => Nat.beq a b
  | .const (.int k a), .const (.int k' b) => decide (k = k') && (a == b)
  | _, _ => false
theorem sameOpd_eq {a b : Operand} (h : sameOpd a b = true) : a = b := by
  unfold sameOpd at h
  split at h
  · rw [Nat.eq_of_beq_eq_true h]
  · simp at h; rw [h.1, h.2]
  · cases h

def pureOp (P : Program) (H : List Ob) (ρ : Operand → D) (type : TypeId) (op : Op) : Option (D × List Bool) :=
  match op with
  | .move x => some (adj P type (ρ x), [])
  | .assign x => some (adj P type (ρ x), [])
  | .load t a => match cellsAt H (ρ a) with
    | some cs => (ldD P t cs).map fun d => (d, [])
    | none => none
  | .fieldAddr s x i => match fieldOff P s i with
    | some (o, _) => (moveD o (ρ x)).map fun d => (d, [])
    | none => none
  | .field s x i => (fieldD P s (ρ x) i).map fun d => (d, [])
  | .indexAddr t x i => idxD P H t (ρ x) (ρ i)
  | .index t x i => indexD P t (ρ x) (ρ i)
  | .binOp op t x y _ => binD P op t (ρ x) (ρ y)
  | .unOp op _ x => (unD op (ρ x)).map fun d => (d, [])
  | .convert s t x => (convD P s t (ρ x)).map fun d => (d, [])
  | .slice t x lo hi none => sliceD P H t (ρ x) (lo.map ρ) (hi.map ρ)
  | .slice t x lo (some hi) (some mx) => bif sameOpd hi mx then slice3D P t (ρ x) (lo.map ρ) (ρ hi) else none
  | .build t ps => (buildD P t (ps.toList.map fun p => (p.1, ρ p.2))).map fun d => (d, [])
  | .buildSlice t n ps => (buildSliceD P t n (ps.toList.map fun p => (p.1, ρ p.2))).map fun d => (d, [])
  | .extract x i => match ρ x with
    | .tup ds => (ds[i]?).map fun d => (d, [])
    | _ => none
  | .makeFunc (.func f) first caps => bif first.isEmpty && caps.toList.all (fun x => cellB (ρ x)) then some (.fn f (caps.toList.map ρ), []) else none
  | .nilCheck x => match ρ x with
    | .pp cs => some (.pp cs, [])
    | .ref id off => some (.ref id off, [])
    | .eref id i off => some (.eref id i off, [])
    | .fn f cap => some (.fn f cap, [])
    | _ => none
  | .call { callee := .builtin .len, args := ⟨[x]⟩, argTypes := ⟨[t]⟩ } => (lenD P t (ρ x)).map fun d => (d, [])
  | .call { callee := .builtin .min, args := ⟨x :: xs⟩, argTypes := _ } => (minmaxD false (xs.map ρ) (ρ x)).map fun d => (d, [])
  | .call { callee := .builtin .max, args := ⟨x :: xs⟩, argTypes := _ } => (minmaxD true (xs.map ρ) (ρ x)).map fun d => (d, [])
  | _ => none

/-- The operation gives a value of the description d, and the context goes on. -/
def Gives (P : Program) (F : Fr) (c : Ctx) (s : Sem Next) (d : D) : Prop :=
  ∃ v c', s.run P c.w = .ok (.value v) c'.w ∧ Inv F c' ∧ Goes c c' ∧ Below c.w.heap.size c.w c'.w ∧ TV c' v d

theorem gives_of {P : Program} {F : Fr} {c : Ctx} (hI : Inv F c) {s : Sem Value} {d : D} (h : ∃ v, s.run P c.w = .ok v c.w ∧ TV c v d) :
    Gives P F c (do pure (.value (← s))) d := by
  obtain ⟨v, h1, h2⟩ := h
  exact ⟨v, c, by simp [h1], hI, Goes.refl hI, Below.refl _ _, h2⟩

theorem optmap_iff {α β : Type} {f : α → β} {o : Option α} : (o.map f = none ↔ o = none) := by cases o <;> simp

theorem pureOp_ok {P : Program} {F : Fr} {c : Ctx} (hI : Inv F c) {ρc : Operand → Value} {ρd : Operand → D} {o : Oper} (hρ : ∀ x ∈ o.op.operands.toList, TV c (ρc x) (ρd x))
    {d : D} {bs : List Bool} (h : pureOp P c.H ρd o.type o.op = some (d, bs)) (hb : ∀ b ∈ bs, b = true) : Gives P F c (execOp ρc o) d := by
  obtain ⟨dst, op, type, pos, after, guard⟩ := o
  unfold pureOp at h
  simp only at h hρ
  split at h
  -- move, assign
  · rename_i x
    simp only [Option.some.injEq, Prod.mk.injEq] at h
    obtain ⟨rfl, rfl⟩ := h
    exact ⟨_, c, rfl, hI, Goes.refl hI, Below.refl _ _, tv_adj (hρ x (by simp [Op.operands]))⟩
  · rename_i x
    simp only [Option.some.injEq, Prod.mk.injEq] at h
    obtain ⟨rfl, rfl⟩ := h
    exact ⟨_, c, rfl, hI, Goes.refl hI, Below.refl _ _, tv_adj (hρ x (by simp [Op.operands]))⟩
  -- load
  · rename_i t a
    split at h <;> try cases h
    rename_i cs hcs
    obtain ⟨d', hd, heq⟩ := Option.map_eq_some_iff.1 h
    simp only [Prod.mk.injEq] at heq
    obtain ⟨rfl, rfl⟩ := heq
    obtain ⟨b, off, g, hv, hc, hcv⟩ := cellsAt_ok hI hcs (hρ a (by simp [Op.operands]))
    obtain ⟨v', h1, h2⟩ := run_ldD hd hc hcv
    exact gives_of hI ⟨v', by simp [Instr.loadAt, hv, Instr.sureAddr, h1], h2⟩
  -- fieldAddr
  · rename_i s x i
    split at h <;> try cases h
    rename_i o ft ho
    obtain ⟨d', hd, heq⟩ := Option.map_eq_some_iff.1 h
    simp only [Prod.mk.injEq] at heq
    obtain ⟨rfl, rfl⟩ := heq
    exact gives_of hI (fieldAt_ok ho hd (hρ x (by simp [Op.operands])))
  -- field
  · rename_i s x i
    obtain ⟨d', hd, heq⟩ := Option.map_eq_some_iff.1 h
    simp only [Prod.mk.injEq] at heq
    obtain ⟨rfl, rfl⟩ := heq
    exact gives_of hI (fieldD_ok hd (hρ x (by simp [Op.operands])))
  -- indexAddr
  · rename_i t x i
    exact gives_of hI (idxD_ok h hb (hρ x (by simp [Op.operands])) (hρ i (by simp [Op.operands])))
  -- index
  · rename_i t x i
    exact gives_of hI (indexD_ok h hb (hρ x (by simp [Op.operands])) (hρ i (by simp [Op.operands])))
  -- binOp
  · rename_i op t x y u
    exact gives_of hI (binD_ok h hb (hρ x (by simp [Op.operands])) (hρ y (by simp [Op.operands])) x y)
  -- unOp
  · rename_i op t x
    obtain ⟨d', hd, heq⟩ := Option.map_eq_some_iff.1 h
    simp only [Prod.mk.injEq] at heq
    obtain ⟨rfl, rfl⟩ := heq
    exact gives_of hI (unD_ok hd (hρ x (by simp [Op.operands])))
  -- convert
  · rename_i s t x
    obtain ⟨d', hd, heq⟩ := Option.map_eq_some_iff.1 h
    simp only [Prod.mk.injEq] at heq
    obtain ⟨rfl, rfl⟩ := heq
    exact gives_of hI (convD_ok hd (hρ x (by simp [Op.operands])))
  -- slice
  · rename_i t x lo hi
    refine gives_of hI (sliceD_ok h hb (hρ x (by simp [Op.operands])) (optmap_iff.trans optmap_iff.symm) (fun v d h1 h2 => ?_) (optmap_iff.trans optmap_iff.symm) (fun v d h1 h2 => ?_))
    · obtain ⟨y, rfl, rfl⟩ := Option.map_eq_some_iff.1 h1
      simp only [Option.map_some, Option.some.injEq] at h2
      subst h2
      exact hρ y (by simp [Op.operands])
    · obtain ⟨y, rfl, rfl⟩ := Option.map_eq_some_iff.1 h1
      simp only [Option.map_some, Option.some.injEq] at h2
      subst h2
      exact hρ y (by simp [Op.operands])
  · rename_i t x lo hi mx
    cases hs : sameOpd hi mx with
    | false => simp [hs] at h
    | true =>
      simp only [hs, cond_true] at h
      have hx := hρ x (by simp [Op.operands])
      have hh := hρ hi (by simp [Op.operands])
      have e : ρc mx = ρc hi := by rw [sameOpd_eq hs]
      have := slice3D_ok (vl := lo.map ρc) h hb hx (optmap_iff.trans optmap_iff.symm) (fun v d h1 h2 => by
        obtain ⟨y, rfl, rfl⟩ := Option.map_eq_some_iff.1 h1
        simp only [Option.map_some, Option.some.injEq] at h2
        subst h2
        exact hρ y (by simp [Op.operands])) hh
      refine gives_of hI ?_
      simp only [Option.map_some, e]
      exact this
  -- build
  · rename_i t ps
    obtain ⟨d', hd, heq⟩ := Option.map_eq_some_iff.1 h
    simp only [Prod.mk.injEq] at heq
    obtain ⟨rfl, rfl⟩ := heq
    refine gives_of hI (buildD_ok (fun p hp => hρ p.2 ?_) hd)
    simp only [Op.operands, List.mem_map]
    exact ⟨p, hp, rfl⟩
  -- buildSlice
  · rename_i t n ps
    obtain ⟨d', hd, heq⟩ := Option.map_eq_some_iff.1 h
    simp only [Prod.mk.injEq] at heq
    obtain ⟨rfl, rfl⟩ := heq
    obtain ⟨v, c', h1, h2, h3, h4, h5⟩ := buildSliceD_ok hI (ρc := ρc) (fun p hp => hρ p.2 (by simp only [Op.operands, List.mem_map]; exact ⟨p, hp, rfl⟩)) hd
    exact ⟨v, c', by simp [execOp, h1], h2, h3, h4, h5⟩
  -- extract
  · rename_i x i
    split at h <;> try cases h
    rename_i ds hx
    obtain ⟨d', hd, heq⟩ := Option.map_eq_some_iff.1 h
    simp only [Prod.mk.injEq] at heq
    obtain ⟨rfl, rfl⟩ := heq
    have hv := hρ x (by simp [Op.operands])
    rw [hx] at hv
    obtain ⟨vs, hvs, hl, hall⟩ := hv
    have hlt : i < vs.size := by rw [hl]; exact (List.getElem?_eq_some_iff.1 hd).1
    exact gives_of hI ⟨vs[i], by simp [Instr.extract, hvs, hlt], tv_of_av (hall i _ _ (by simp [hlt]) hd)⟩
  -- makeFunc
  · rename_i f first caps
    cases hc : (first.isEmpty && caps.toList.all fun x => cellB (ρd x)) with
    | false => rw [hc] at h; cases h
    | true =>
      rw [hc] at h
      simp only [cond_true, Option.some.injEq, Prod.mk.injEq] at h
      obtain ⟨rfl, rfl⟩ := h
      simp only [Bool.and_eq_true, Array.isEmpty_iff, List.all_eq_true] at hc
      obtain ⟨rfl, hc⟩ := hc
      refine gives_of hI ⟨.func (.func f) #[] (caps.map ρc), by simp [Instr.makeFunc], ?_⟩
      refine ⟨_, rfl, by simp, fun i v d h1 h2 => ?_⟩
      simp only [Array.getElem?_map, Option.map_eq_some_iff] at h1
      obtain ⟨x, hx, rfl⟩ := h1
      simp only [List.getElem?_map, Array.getElem?_toList, hx, Option.map_some, Option.some.injEq] at h2
      subst h2
      have hmem : x ∈ caps.toList := by rw [← Array.getElem?_toList] at hx; exact List.mem_of_getElem? hx
      exact cell_cv (hc x hmem) (hρ x (by simp only [Op.operands, Array.toList_append, List.mem_append]; exact .inr hmem))
  -- nilCheck
  · rename_i x
    have hv := hρ x (by simp [Op.operands])
    split at h <;> simp only [Option.some.injEq, Prod.mk.injEq, reduceCtorEq] at h <;> obtain ⟨rfl, rfl⟩ := h <;> rename_i hx <;> rw [hx] at hv
    · have h1 := hv; simp only [TV, AV, CV] at h1
      generalize hr : ρc x = r at h1 hv
      cases h1
      exact ⟨_, c, by simp [execOp, hr], hI, Goes.refl hI, Below.refl _ _, hv⟩
    · have h1 := hv; simp only [TV, AV, CV] at h1
      obtain ⟨b, _, hr⟩ := h1
      exact ⟨ρc x, c, by simp [execOp, hr], hI, Goes.refl hI, Below.refl _ _, hv⟩
    · have h1 := hv; simp only [TV, AV, CV] at h1
      obtain ⟨b, _, _, _, _, _, _, hr⟩ := h1
      exact ⟨ρc x, c, by simp [execOp, hr], hI, Goes.refl hI, Below.refl _ _, hv⟩
    · have h1 := hv
      obtain ⟨vs, hr, _⟩ := h1
      exact ⟨ρc x, c, by simp [execOp, hr], hI, Goes.refl hI, Below.refl _ _, hv⟩
  -- len, min, max
  · rename_i x t
    obtain ⟨d', hd, heq⟩ := Option.map_eq_some_iff.1 h
    simp only [Prod.mk.injEq] at heq
    obtain ⟨rfl, rfl⟩ := heq
    obtain ⟨v', h1, h2⟩ := lenD_ok (u := type) hd (hρ x (by simp [Op.operands, Call.operands]))
    exact ⟨v', c, by simp [execOp, resolve, invoke, builtin, h1], hI, Goes.refl hI, Below.refl _ _, h2⟩
  · rename_i x xs ts
    obtain ⟨d', hd, heq⟩ := Option.map_eq_some_iff.1 h
    simp only [Prod.mk.injEq] at heq
    obtain ⟨rfl, rfl⟩ := heq
    obtain ⟨v', h1, h2⟩ := min_ok (P := P) (xs.map ρd) (xs.map ρc) _ _ _ (hρ x (by simp [Op.operands, Call.operands])) (by simp) (fun i v d h3 h4 => by
      simp only [List.getElem?_map, Option.map_eq_some_iff] at h3
      obtain ⟨y, hy, rfl⟩ := h3
      simp only [List.getElem?_map, hy, Option.map_some, Option.some.injEq] at h4
      subst h4
      exact hρ y (by simp [Op.operands, Call.operands, List.mem_of_getElem? hy])) hd
    exact ⟨v', c, by simp [execOp, resolve, invoke, builtin, Builtin.min_, h1], hI, Goes.refl hI, Below.refl _ _, h2⟩
  · rename_i x xs ts
    obtain ⟨d', hd, heq⟩ := Option.map_eq_some_iff.1 h
    simp only [Prod.mk.injEq] at heq
    obtain ⟨rfl, rfl⟩ := heq
    obtain ⟨v', h1, h2⟩ := max_ok (P := P) (xs.map ρd) (xs.map ρc) _ _ _ (hρ x (by simp [Op.operands, Call.operands])) (by simp) (fun i v d h3 h4 => by
      simp only [List.getElem?_map, Option.map_eq_some_iff] at h3
      obtain ⟨y, hy, rfl⟩ := h3
      simp only [List.getElem?_map, hy, Option.map_some, Option.some.injEq] at h4
      subst h4
      exact hρ y (by simp [Op.operands, Call.operands, List.mem_of_getElem? hy])) hd
    exact ⟨v', c, by simp [execOp, resolve, invoke, builtin, Builtin.max_, h1], hI, Goes.refl hI, Below.refl _ _, h2⟩
  · cases h
end Nv
