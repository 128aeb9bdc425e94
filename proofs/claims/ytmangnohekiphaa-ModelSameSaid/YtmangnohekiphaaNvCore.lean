/- Abstract values for the walk: what a Go value holds, read off memory that does not change (persistent), or off objects of the call's own. -/
import Derived.WalkKit
namespace Nv
open Go Go.RowKit

inductive D where
  | int (k : IntKind) (n : Int)
  | bool (b : Bool)
  | str (s : ByteArray)
  | nilp
  | nils
  | agg (cs : List D)
  | sl (full : Bool) (wd n : Nat) (f : Nat → List D)
  | pp (cs : List D)
  | ref (id off : Nat)
  | eref (id i off : Nat)
  | asl (id off len : Nat)
  | fn (f : FuncId) (cap : List D)
  | tup (ds : List D)
  | opt (j : Nat) (want : Bool) (d : D)
  | nilq (n : Nat)
  | any
  deriving Inhabited

/-- A value of one cell whose memory does not change (blocks of I), in the world w. -/
inductive PV (I : Nat → Prop) (w : World) : Value → D → Prop
  | int (k : IntKind) (n : Int) : PV I w (.int k n) (.int k n)
  | bool (b : Bool) : PV I w (.bool b) (.bool b)
  | str (s : ByteArray) : PV I w (.string s) (.str s)
  | nilp : PV I w (.pointer none) .nilp
  | nils : PV I w (.slice none 0 0) .nils
  | nilq (b : Bool) (n : Nat) (h : b = true → n = 0) : PV I w (.bool b) (.nilq n)
  | any (v : Value) : PV I w v .any
  | fn (f : FuncId) : PV I w (.func (.func f) #[] #[]) (.fn f [])
  | sl (a : Option Addr) (n cap wd : Nat) (full : Bool) (f : Nat → List D) (g : Nat → Nat → Value)
      (hfull : full = true → cap = n) (hcap : n ≤ cap)
      (hb : 0 < n → ∃ b off, a = some ⟨b, off, none⟩ ∧ I b ∧ ∀ i, i < n → ∀ j, j < wd → w.cell? ⟨b, off + i * wd + j, none⟩ = some (g i j))
      (hw : ∀ i, i < n → (f i).length = wd)
      (hone : ∀ i, i < n → ∀ j, j < wd → (g i j).oneCell' = true)
      (hv : ∀ i, i < n → ∀ j d, (f i)[j]? = some d → PV I w (g i j) d) : PV I w (.slice a n cap) (.sl full wd n f)
  | pp (b off : Nat) (cs : List D) (g : Nat → Value) (hI : I b)
      (hc : ∀ j, j < cs.length → w.cell? ⟨b, off + j, none⟩ = some (g j))
      (hv : ∀ j d, cs[j]? = some d → PV I w (g j) d) : PV I w (.pointer (some ⟨b, off, none⟩)) (.pp cs)

theorem cell_same {w w' : World} {b : Nat} (h : w'.heap[b]? = w.heap[b]?) (o : Nat) : w'.cell? ⟨b, o, none⟩ = w.cell? ⟨b, o, none⟩ := by
  simp only [World.cell?, h]

theorem PV.mono {I I' : Nat → Prop} {w w' : World} (hI : ∀ b, I b → I' b) (hw : ∀ b, I b → w'.heap[b]? = w.heap[b]?) {v : Value} {d : D}
    (h : PV I w v d) : PV I' w' v d := by
  induction h with
  | int k n => exact .int k n
  | bool b => exact .bool b
  | str s => exact .str s
  | nilp => exact .nilp
  | nils => exact .nils
  | nilq b n h => exact .nilq b n h
  | any v => exact .any v
  | fn f => exact .fn f
  | sl a n cap wd full f g hfull hcap hb hw' hone hv ih =>
    refine .sl a n cap wd full f g hfull hcap (fun hn => ?_) hw' hone ih
    obtain ⟨b, off, ha, hIb, hc⟩ := hb hn
    exact ⟨b, off, ha, hI b hIb, fun i hi j hj => by rw [cell_same (hw b hIb)]; exact hc i hi j hj⟩
  | pp b off cs g hIb hc hv ih => exact .pp b off cs g (hI b hIb) (fun j hj => by rw [cell_same (hw b hIb)]; exact hc j hj) ih

/-- An object of the call's own. -/
inductive Ob where
  | box (cells : List D)
  | arr (wd n : Nat) (f : Nat → List D)
  | gone

structure Ctx where
  I : Nat → Prop
  mu : Nat → Option Nat
  H : List Ob
  w : World

def Room (w : World) (b n : Nat) : Prop := ∃ cs T, w.heap[b]? = some (.cells cs T (0, 0)) ∧ n ≤ cs.size

/-- A value of one cell. -/
def CV (c : Ctx) (v : Value) : D → Prop
  | .ref id off => ∃ b, c.mu id = some b ∧ v = .pointer (some ⟨b, off, none⟩)
  | .eref id i off => ∃ b wd n f, c.mu id = some b ∧ c.H[id]? = some (.arr wd n f) ∧ i < n ∧ v = .pointer (some ⟨b, i * wd + off, none⟩)
  | .asl id off len => ∃ wd n f a cap, c.H[id]? = some (.arr wd n f) ∧ off + len ≤ n ∧ v = .slice a len cap ∧ len ≤ cap ∧
      (cap = 0 ∨ ∃ b, c.mu id = some b ∧ a = some ⟨b, off * wd, none⟩ ∧ Room c.w b ((off + cap) * wd))
  | d => PV c.I c.w v d

def Vs (R : Value → D → Prop) (vs : Array Value) (ds : List D) : Prop := vs.size = ds.length ∧ ∀ (i : Nat) (v : Value) (d : D), vs[i]? = some v → ds[i]? = some d → R v d

/-- A value: of one cell, or an aggregate, or a function. -/
def AV (c : Ctx) (v : Value) : D → Prop
  | .agg cs => ∃ vs, v = .agg vs ∧ Vs (CV c) vs cs
  | .fn f cap => ∃ vs, v = .func (.func f) #[] vs ∧ Vs (CV c) vs cap
  | d => CV c v d

/-- What a temporary holds. -/
def TV (c : Ctx) (v : Value) : D → Prop
  | .tup ds => ∃ vs, v = .tuple vs ∧ Vs (AV c) vs ds
  | d => AV c v d

/-- What a temporary holds inside a region: behind a guard that failed, nothing. -/
def GV (y : Nat → Option Bool) (c : Ctx) (v : Value) : D → Prop
  | .opt j want d => (y j = some want ∧ TV c v d) ∨ (y j ≠ some want ∧ v = undef)
  | d => TV c v d

/-- An object in memory. -/
def OV (c : Ctx) (b? : Option Nat) : Ob → Prop
  | .box cells => ∃ b cs T, b? = some b ∧ c.w.heap[b]? = some (.cells cs T (0, 0)) ∧ Vs (CV c) cs cells
  | .arr wd n f => (∀ i, i < n → (f i).length = wd) ∧ ((b? = none ∧ n = 0) ∨ ∃ b cs T, b? = some b ∧ c.w.heap[b]? = some (.cells cs T (0, 0)) ∧ n * wd ≤ cs.size ∧
      ∀ i, i < n → ∀ j d, (f i)[j]? = some d → ∃ v, cs[i * wd + j]? = some v ∧ v.oneCell' = true ∧ PV c.I c.w v d)
  | .gone => b? = none

/-- The frame of a call: the world and the immutable blocks at its beginning, the blocks of the objects that are lent to it (its first objects; behind them stands a mark). -/
structure Fr where
  w0 : World
  I0 : Nat → Prop
  L : List (Option Nat)
def Fr.lent (F : Fr) (b : Nat) : Prop := some b ∈ F.L
structure Bel (F : Fr) (w : World) : Prop where
  os : w.os = F.w0.os
  tape : w.tape = F.w0.tape
  output : w.output = F.w0.output
  size : F.w0.heap.size ≤ w.heap.size
  block : ∀ k, k < F.w0.heap.size → ¬ F.lent k → w.heap[k]? = F.w0.heap[k]?
  shape : ∀ k, F.lent k → ∃ cs cs' T, F.w0.heap[k]? = some (.cells cs T (0, 0)) ∧ w.heap[k]? = some (.cells cs' T (0, 0)) ∧ cs'.size = cs.size
theorem Bel.lt {F : Fr} {w : World} (h : Bel F w) {k : Nat} (hk : F.lent k) : k < w.heap.size := by
  obtain ⟨_, cs', T, _, h1, _⟩ := h.shape k hk
  exact (Array.getElem?_eq_some_iff.1 h1).1
theorem Bel.next {F : Fr} {w w' : World} (h : Bel F w) (hb : Below w.heap.size w w') : Bel F w' :=
  ⟨hb.os.trans h.os, hb.tape.trans h.tape, hb.output.trans h.output, Nat.le_trans h.size hb.size, fun k hk hl => (hb.block k (Nat.lt_of_lt_of_le hk h.size)).trans (h.block k hk hl),
    fun k hl => let ⟨cs, cs', T, h1, h2, h3⟩ := h.shape k hl; ⟨cs, cs', T, h1, by rw [hb.block k (h.lt hl)]; exact h2, h3⟩⟩
theorem Bel.below {F : Fr} {w : World} (h : Bel F w) (hL : F.L = []) : Below F.w0.heap.size F.w0 w :=
  ⟨h.os, h.tape, h.output, h.size, fun k hk => h.block k hk (by simp [Fr.lent, hL])⟩

structure Inv (F : Fr) (c : Ctx) : Prop where
  below : Bel F c.w
  imm : ∀ b, c.I b → b < c.w.heap.size ∧ (b < F.w0.heap.size → F.I0 b)
  loc : ∀ id b, c.mu id = some b → (F.w0.heap.size ≤ b ∨ F.lent b) ∧ b < c.w.heap.size ∧ ¬ c.I b
  inj : ∀ i j b, c.mu i = some b → c.mu j = some b → i = j
  obj : ∀ id o, c.H[id]? = some o → OV c (c.mu id) o
  dom : ∀ id, c.H.length ≤ id → c.mu id = none
  lent : ∀ i v, F.L[i]? = some v → c.mu i = v
  mark : F.L ≠ [] → c.H[F.L.length]? = some .gone

/-- The context goes on, its objects as they are: nothing that is there turns. -/
structure Goes (c c' : Ctx) : Prop where
  mu : c'.mu = c.mu
  H : c'.H = c.H
  I : ∀ b, c.I b → c'.I b
  blk : ∀ b, b < c.w.heap.size → c'.w.heap[b]? = c.w.heap[b]?
  immLt : ∀ b, c.I b → b < c.w.heap.size
  locLt : ∀ id b, c.mu id = some b → b < c.w.heap.size

section
variable {c c' : Ctx}
theorem Goes.refl {F : Fr} (h : Inv F c) : Goes c c := ⟨rfl, rfl, fun _ h => h, fun _ _ => rfl, fun b hb => (h.imm b hb).1, fun id b hb => (h.loc id b hb).2.1⟩
theorem Goes.trans {c'' : Ctx} (h : Goes c c') (k : Goes c' c'') (hs : c.w.heap.size ≤ c'.w.heap.size) : Goes c c'' :=
  ⟨k.mu.trans h.mu, k.H.trans h.H, fun b hb => k.I b (h.I b hb), fun b hb => (k.blk b (Nat.lt_of_lt_of_le hb hs)).trans (h.blk b hb), h.immLt, h.locLt⟩
theorem Goes.pv (h : Goes c c') {v : Value} {d : D} (k : PV c.I c.w v d) : PV c'.I c'.w v d :=
  k.mono h.I fun b hb => h.blk b (h.immLt b hb)
theorem Goes.room (h : Goes c c') {b n : Nat} (hb : b < c.w.heap.size) (k : Room c.w b n) : Room c'.w b n := by
  obtain ⟨cs, T, h1, h2⟩ := k
  exact ⟨cs, T, by rw [h.blk b hb]; exact h1, h2⟩
theorem Goes.cv (h : Goes c c') {v : Value} {d : D} (k : CV c v d) : CV c' v d := by
  cases d <;> simp only [CV] at k ⊢ <;> try exact h.pv k
  · rw [h.mu]; exact k
  · rw [h.mu, h.H]; exact k
  · obtain ⟨wd, n, f, a, cap, h1, h2, h3, h4, h5⟩ := k
    refine ⟨wd, n, f, a, cap, by rw [h.H]; exact h1, h2, h3, h4, h5.imp id ?_⟩
    rintro ⟨b, hb, ha, hr⟩
    exact ⟨b, by rw [h.mu]; exact hb, ha, h.room (h.locLt _ b hb) hr⟩
theorem Vs.mono {R R' : Value → D → Prop} {vs : Array Value} {ds : List D} (h : ∀ v d, R v d → R' v d) (k : Vs R vs ds) : Vs R' vs ds :=
  ⟨k.1, fun i v d h1 h2 => h v d (k.2 i v d h1 h2)⟩
theorem Goes.av (h : Goes c c') {v : Value} {d : D} (k : AV c v d) : AV c' v d := by
  cases d <;> simp only [AV] at k ⊢ <;> try exact h.cv k
  · obtain ⟨vs, h1, h2⟩ := k; exact ⟨vs, h1, h2.mono fun _ _ => h.cv⟩
  · obtain ⟨vs, h1, h2⟩ := k; exact ⟨vs, h1, h2.mono fun _ _ => h.cv⟩
theorem Goes.tv (h : Goes c c') {v : Value} {d : D} (k : TV c v d) : TV c' v d := by
  cases d <;> simp only [TV] at k ⊢ <;> try exact h.av k
  obtain ⟨vs, h1, h2⟩ := k; exact ⟨vs, h1, h2.mono fun _ _ => h.av⟩
theorem Goes.gv (h : Goes c c') {y : Nat → Option Bool} {v : Value} {d : D} (k : GV y c v d) : GV y c' v d := by
  cases d <;> simp only [GV] at k ⊢ <;> try exact h.tv k
  exact k.imp (fun ⟨a, b⟩ => ⟨a, h.tv b⟩) id
theorem Goes.ov (h : Goes c c') {id : Nat} {o : Ob} (k : OV c (c.mu id) o) : OV c' (c.mu id) o := by
  cases o with
  | box cells =>
    obtain ⟨b, cs, T, hb, h1, h2⟩ := k
    exact ⟨b, cs, T, hb, by rw [h.blk b (h.locLt _ b hb)]; exact h1, h2.mono fun _ _ => h.cv⟩
  | arr wd n f =>
    refine ⟨k.1, k.2.imp (fun x => x) ?_⟩
    rintro ⟨b, cs, T, hb, h1, h2, h3⟩
    exact ⟨b, cs, T, hb, by rw [h.blk b (h.locLt _ b hb)]; exact h1, h2, fun i hi j d hd => let ⟨v, hv, ho, hp⟩ := h3 i hi j d hd; ⟨v, hv, ho, h.pv hp⟩⟩
  | gone => exact k
end
/-- It goes on, and so does what holds of it. -/
theorem Inv.goes {F : Fr} {c c' : Ctx} (h : Inv F c) (g : Goes c c') (hb : Below c.w.heap.size c.w c'.w)
    (hi : ∀ b, c'.I b → c.I b ∨ (c.w.heap.size ≤ b ∧ b < c'.w.heap.size)) : Inv F c' := by
  have hs := hb.size
  have hs0 := h.below.size
  refine ⟨h.below.next hb, fun b hb' => ?_, fun id b hm => ?_, fun i j b h1 h2 => ?_, fun id o ho => ?_, fun id hid => ?_, fun i v hv => by rw [g.mu]; exact h.lent i v hv, fun hl => by rw [g.H]; exact h.mark hl⟩
  · rcases hi b hb' with h1 | ⟨h1, h2⟩
    · exact ⟨Nat.lt_of_lt_of_le (h.imm b h1).1 hs, (h.imm b h1).2⟩
    · exact ⟨h2, fun h3 => by omega⟩
  · rw [g.mu] at hm
    obtain ⟨h1, h2, h3⟩ := h.loc id b hm
    refine ⟨h1, by omega, fun h4 => ?_⟩
    rcases hi b h4 with h5 | ⟨h5, _⟩
    · exact h3 h5
    · omega
  · rw [g.mu] at h1 h2; exact h.inj i j b h1 h2
  · rw [g.H] at ho
    rw [g.mu]
    exact g.ov (h.obj id o ho)
  · rw [g.mu]; exact h.dom id (by rw [← g.H]; exact hid)
end Nv
