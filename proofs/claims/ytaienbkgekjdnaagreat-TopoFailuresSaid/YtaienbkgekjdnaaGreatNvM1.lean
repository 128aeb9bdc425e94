/- The walks: each function computes its mirror. -/
import Derived.Test.YtaienbkgekjdnaaGreatProg
import Derived.Test.YtaienbkgekjdnaaGreatNvD1
import Derived.Test.YtaienbkgekjdnaaGreatNvLibC
import Derived.Test.YtaienbkgekjdnaaGreatNvLibB
import Derived.KernelRfl
import Derived.Ground.SlsfProg
import Derived.Shelf.Lay
import Derived.Test.YtaienbkgekjdnaaGreatNvLibD
set_option maxRecDepth 100000
namespace Nv
open Go Go.Proofs
theorem VO (a0 : List Int) (r : List Int) (h : M.Xd a0 = some r) : Fn Tryz.prog 49 [sL 1 (ci .i64) a0] (.pure (sL 1 (ci .i64) r)) := by
 unfold M.Xd at h
 obtain ⟨hc, h1⟩ := ZP h
 obtain rfl := Option.some.inj h1
 refine ZR Tryz.func49 rfl (by kernel_rfl) (Za (zg [0] 0 (Zb (Za (Za (zg [0, 4] 0 (Zb (nq a0.length (fun hz => ?_) ?_))))))))
 exact Za (zg [2] 0 (Zb (Zs (Xk (er (.sl false 1 0 (fun _ => [])) (JF hz))))))
 exact Zf (Zb (Za (zc [2] 1 hc (Zb (Zs (er (.sl false 1 (0 + a0.length) (fun i => (app (fun i => List.take 1 (List.drop (i * 1) [])) 0 (fun i => (ci .i64) (a0.getD i default))) (0 + i))) (J2 (Nat.zero_add _) (fun i hi => by rw [Nat.zero_add]; exact QQ (ci .i64) _ a0 _ (fun _ _ => rfl) i hi))))))))
theorem Jr (a0 : List Int) (r : List Int) (h : M.Xd a0 = some r) : Fn Tryz.prog 49 [sL 1 (ci .i64) a0] (oL 1 (ci .i64) r) := by
 unfold M.Xd at h
 obtain ⟨hc, h1⟩ := ZP h
 obtain rfl := Option.some.inj h1
 refine W6 Tryz.func49 rfl (by kernel_rfl) (Jb ?_)
 refine Za (rg0 [0] 0 ⟨8, [(0, sL 1 (ci .i64) a0)], []⟩ ?_)
 refine Zb (Za (Za (rg0 [0, 4] 0 ⟨8, [(0, sL 1 (ci .i64) a0), (4, .nilq a0.length)], []⟩ ?_)))
 refine Zb (nq a0.length (fun hz => ?_) ?_)
 refine Za (rg0 [2] 0 ⟨8, [(2, .sl true 1 0 (fun _ => []))], []⟩ ?_)
 refine Zb (Zs (Xk ?_))
 obtain rfl := List.eq_nil_of_length_eq_zero hz
 exact ⟨_, VZ (wd := 1) (f := fun _ => []) 2 (by kernel_rfl) 1 (fun i => (ci .i64) (([] : List Int).getD i default)), .inr rfl, 2, 0, _, rfl, rfl, rfl, fun _ _ => rfl⟩
 refine Zf (Zb (Za (rgc [2] 1 ⟨8, [(2, .asl 0 0 (0 + a0.length))], [.arr 1 (0 + a0.length) (app (fun i => List.take 1 (List.drop (i * 1) [])) 0 (fun i => (ci .i64) (a0.getD i default)))]⟩ [decide (0 = 0) || decide (0 < a0.length), decide ((0 + a0.length) * 8 ≤ 140737488355328)] hc ?_)))
 refine Zb (Zs ?_)
 exact ⟨⟨8, [(2, .asl 0 0 a0.length)], [aL 1 (ci .i64) a0]⟩, Y5 (.cons (Qk (Nat.zero_add _)) .nil) (.cons (.arr (Nat.zero_add _) (QQ (ci .i64) _ a0 _ (fun _ _ => rfl))) .nil), .inr rfl, 2, 0, _, rfl, rfl, rfl, fun _ _ => rfl⟩
def wF (p1 : (List (List Int)) × Int × Int) (g : Bool) : D := bif g then sL 1 (cl 1 (ci .i64)) ((p1.1.drop p1.2.1.toNat).take (((p1.1.length : Int).toNat) - p1.2.1.toNat)) else .asl 0 (0 + p1.2.1.toNat) (((p1.1.length : Int).toNat) - p1.2.1.toNat)
theorem failJ3 (a0 : Int) (p1 : (List (List Int)) × Int × Int) (p3 : (List (List Int)) × Int) : ∀ x x' : (List (List Int)) × Int, (∃ t, x.1 = p1.1 ++ t) → M.XH a0 p1 p3 x = some (.inl x') → ∃ t, x'.1 = p1.1 ++ t := by
 intro x x' ⟨t, ht⟩ h
 unfold M.XH at h
 cases hb : decide (x.2 < a0) with
 | false => rw [hb] at h; cases h
 | true =>
  rw [hb] at h
  obtain ⟨r, _, h1⟩ := bind_some (Wo rfl h)
  obtain ⟨_, h2⟩ := ZP h1
  obtain ⟨_, h3⟩ := ZP h2
  have h4 := Sum.inl.inj (Option.some.inj h3)
  rw [← h4]
  exact ⟨t ++ [r ++ [x.2]], by rw [ht, List.append_assoc]⟩
theorem failJ2 (a0 : Int) (p1 : (List (List Int)) × Int × Int) : ∀ x x' : (List (List Int)) × Int, (∃ t, x.1 = p1.1 ++ t) → M.XS a0 p1 x = some (.inl x') → ∃ t, x'.1 = p1.1 ++ t := by
 intro x x' hx h
 have key : ∀ q, M.Xv a0 p1 x q = some (.inl x') → ∃ t, x'.1 = p1.1 ++ t := fun q hq => by
  unfold M.Xv at hq
  obtain ⟨y, q1, h1⟩ := bind_some hq
  have h2 := Sum.inl.inj (Option.some.inj h1)
  rw [← h2]
  refine Zb7 (fun z : (List (List Int)) × Int => ∃ t, z.1 = p1.1 ++ t) (fun z => ∃ t, z = p1.1 ++ t) (failJ3 a0 p1 x) (fun z y hz e => ?_) (Ju q1) hx
  unfold M.XH at e
  cases hb : decide (z.2 < a0) with
  | true =>
   rw [hb] at e
   obtain ⟨r, _, h3⟩ := bind_some (Wo rfl e)
   obtain ⟨_, h4⟩ := ZP h3
   obtain ⟨_, h5⟩ := ZP h4
   cases h5
  | false =>
   rw [hb] at e
   have h3 := Sum.inr.inj (Option.some.inj (UY rfl e))
   rw [← h3]; exact hz
 unfold M.XS at h
 cases hb : decide (x.2 < ((((p1.1.length : Int).toNat) - p1.2.1.toNat : Nat) : Int)) with
 | false => rw [hb] at h; cases h
 | true =>
  rw [hb] at h
  obtain ⟨_, h1⟩ := ZP (Wo rfl h)
  revert h1
  cases decide ((((((p1.1.drop p1.2.1.toNat).take (((p1.1.length : Int).toNat) - p1.2.1.toNat)).getD x.2.toNat default).length : Int) > 0)) with
  | true => exact fun h1 => key _ (ZP h1).2
  | false => exact fun h1 => key _ h1
theorem failF {p1 : (List (List Int)) × Int × Int} (h : ∀ b ∈ [decide (0 ≤ (p1.1.length : Int)), decide ((p1.1.length : Int) ≤ (p1.1.length : Int)), decide (0 ≤ p1.2.1), decide (p1.2.1 ≤ ((p1.1.length : Int).toNat : Int))], b = true) : p1.2.1.toNat ≤ p1.1.length := by
 have h1 : 0 ≤ p1.2.1 := of_decide_eq_true (h _ (by simp only [List.mem_cons, true_or, or_true]))
 have h2 : p1.2.1 ≤ ((p1.1.length : Int).toNat : Int) := of_decide_eq_true (h _ (by simp only [List.mem_cons, true_or, or_true]))
 omega
theorem failL (p1 : (List (List Int)) × Int × Int) : ((p1.1.drop p1.2.1.toNat).take (((p1.1.length : Int).toNat) - p1.2.1.toNat)).length = ((p1.1.length : Int).toNat) - p1.2.1.toNat := by
 simp
theorem failC {p1 : (List (List Int)) × Int × Int} {i : Int} (h : ∀ b ∈ [decide (0 ≤ i), decide (i < (((p1.1.drop p1.2.1.toNat).take (((p1.1.length : Int).toNat) - p1.2.1.toNat)).length : Int))], b = true) : ∀ b ∈ [decide (0 ≤ i), decide (i < ((((p1.1.length : Int).toNat) - p1.2.1.toNat : Nat) : Int))], b = true := by
 rw [failL] at h
 exact h
theorem failE {p1 : (List (List Int)) × Int × Int} {p3 : (List (List Int)) × Int} (hJ : ∃ t, p3.1 = p1.1 ++ t) (h : ∀ b ∈ [decide (0 ≤ p3.2), decide (p3.2 < (((p1.1.drop p1.2.1.toNat).take (((p1.1.length : Int).toNat) - p1.2.1.toNat)).length : Int))], b = true) : p3.1.getD (0 + p1.2.1.toNat + p3.2.toNat) default = ((p1.1.drop p1.2.1.toNat).take (((p1.1.length : Int).toNat) - p1.2.1.toNat)).getD p3.2.toNat default := by
 have h1 : 0 ≤ p3.2 := of_decide_eq_true (h _ (by simp only [List.mem_cons, true_or, or_true]))
 have h2 : p3.2 < (((p1.1.drop p1.2.1.toNat).take (((p1.1.length : Int).toNat) - p1.2.1.toNat)).length : Int) := of_decide_eq_true (h _ (by simp only [List.mem_cons, true_or, or_true]))
 rw [failL] at h2
 obtain ⟨t, ht⟩ := hJ
 rw [ht, List.getD_eq_getElem?_getD, List.getD_eq_getElem?_getD, List.getElem?_append_left (by omega), List.getElem?_take_of_lt (by omega), List.getElem?_drop]
 congr 2
 omega
theorem failN {p1 : (List (List Int)) × Int × Int} {p6 : (List (List Int)) × Int} (hJ : ∃ t, p6.1 = p1.1 ++ t) (hF : p1.2.1.toNat ≤ p1.1.length) (h : ∀ b ∈ [decide ((p6.1.length + 1) * 24 ≤ 140737488355328)], b = true) :
    ∀ b ∈ [decide (0 + p1.2.1.toNat + (((p1.1.length : Int).toNat) - p1.2.1.toNat) ≤ p6.1.length + 1), decide ((p6.1.length + 1) * 24 ≤ 140737488355328)], b = true := by
 obtain ⟨t, ht⟩ := hJ
 have hl : p6.1.length = p1.1.length + t.length := by rw [ht, List.length_append]
 intro b hb
 rcases List.mem_cons.1 hb with rfl | hb
 · exact decide_eq_true (by omega)
 · exact h b hb
theorem failS {p1 : (List (List Int)) × Int × Int} {p6 : (List (List Int)) × Int} (hJ : ∃ t, p6.1 = p1.1 ++ t) (hF : p1.2.1.toNat ≤ p1.1.length) : Sub (.sl false 1 (((p1.1.length : Int).toNat) - p1.2.1.toNat) (fun i => cl 1 (ci .i64) (p6.1.getD (0 + p1.2.1.toNat + i) default))) (wF p1 true) := by
 refine J2 (failL p1).symm fun i hi => ?_
 obtain ⟨t, ht⟩ := hJ
 congr 1
 rw [ht, List.getD_eq_getElem?_getD, List.getD_eq_getElem?_getD, List.getElem?_append_left (by omega), List.getElem?_take_of_lt (by omega), List.getElem?_drop]
 congr 2
 omega
theorem U7 (a0 : Int) (a1 : Int) (r : (List (List Int)) × Int) (h : M.Ye a0 a1 = some r) : Fn Tryz.prog 20 [.int .i64 a0, .int .i64 a1] (.pure (.tup [sL 1 (cl 1 (ci .i64)) r.1, .int .i64 r.2])) := by
 let u15 := List (List Int)
 unfold M.Ye at h
 refine ZR Tryz.func20 rfl (by kernel_rfl) (Za (zg [0, 1] 0 (Zb (Za (Za (rg0 [0, 1, 26] 0 ⟨71, [(0, .int .i64 a0), (1, .int .i64 a1), (26, .bool ((((decide (a0 < 0)) || (decide (a0 > 12))) || (decide (a1 < 0))) || (decide (a1 > 2))))], []⟩ (Zb (cn h (fun _ h2 => ?_) (fun _ h3 => ?_)))))))))
 refine Za (zg [4, 5] 0 (Zb (Zs (Xk ?_))))
 obtain rfl := Option.some.inj h2
 exact er (.tup [.sl false 1 0 (fun _ => []), .int .i64 1]) (GB (.cons RG (.cons ASub.rfl .nil)))
 refine Zf (Zb (Za (rgo 1 [] [0, 1, 27] 0 ⟨71, [(0, .int .i64 a0), (1, .int .i64 a1), (27, .sl true 1 0 (fun i => List.take 1 (List.drop (i * 1) [])))], []⟩ [] [] ZA trivial _ (ZaT (sz := 1) (len := 1) (f := fun i => List.take 1 (List.drop (i * 1) [.sl true 1 0 (fun i => List.take 1 (List.drop (i * 1) []))])) rfl rfl rfl rfl rfl (by kernel_rfl)) [] [0, 1, 6] 1 (fun _ => ⟨71, [(0, .int .i64 a0), (1, .int .i64 a1), (6, .asl 0 0 1)], [.arr 1 1 (fun i => List.take 1 (List.drop (i * 1) [.sl true 1 0 (fun i => List.take 1 (List.drop (i * 1) []))]))]⟩) (fun _ => []) (fun _ => []) (fun _ => ZA) (fun _ => trivial) (fun _ => (Yy (s' := ⟨71, [(0, .int .i64 a0), (1, .int .i64 a1), (6, .asl 0 0 (([([] : List Int)] : List (List Int)).length))], [aL 1 (cl 1 (ci .i64)) ([([] : List Int)] : List (List Int))]⟩) (Y5 (.cons Sub.rfl (.cons Sub.rfl (.cons (Qk rfl) .nil))) (.cons (.arp rfl (KF (.cons G8 .nil))) .nil)) (Za (zg [0, 1, 6, 7] 1 (Zb (Za (Za (zg [0, 6, 7, 29, 30] 1 (Zb (Zt ?_)))))))))))))
 obtain ⟨y11, q45, h46⟩ := bind_some h3
 refine zl (fun (p1 : u15 × Int × Int) => ⟨71, [(0, .int .i64 a0), (6, .asl 0 0 p1.1.length), (7, .int .i64 p1.2.1), (29, .int .i64 a1), (30, .int .i64 p1.2.2)], [aL 1 (cl 1 (ci .i64)) p1.1]⟩) (fun z => OutE 0 (fun z => ⟨71, [(6, .asl 0 0 z.length)], [aL 1 (cl 1 (ci .i64)) z]⟩) z) q45 ?_ ?_
 intro p1 y2 h4
 let u1 := (p1.1.length : Int)
 let u7 := (u1.toNat) - p1.2.1.toNat
 let u12 := (p1.1.drop p1.2.1.toNat).take u7
 unfold M.YJ at h4
 refine Za (zg [0, 6, 7, 29, 30, 31] 1 (Zb (Za (cn h4 (fun _ h6 => ?_) (fun _ h7 => ?_)))))
 refine Zf (Zb (Za (Zt (Za (zg [0, 6, 7, 8, 29, 30] 1 (Zb (Za (Za ?_))))))))
 obtain ⟨c8, h9⟩ := ZP h6
 refine rgc [0, 6, 8, 29, 30, 37, 38, 39] 1 ⟨71, [(0, .int .i64 a0), (6, .asl 0 0 p1.1.length), (8, .int .i64 u1), (29, .int .i64 a1), (30, .int .i64 p1.2.2), (37, .asl 0 (0 + p1.2.1.toNat) u7), (38, .int .i64 (((u1.toNat) - p1.2.1.toNat : Nat) : Int)), (39, .int .i64 0)], [aL 1 (cl 1 (ci .i64)) p1.1]⟩ [decide (0 ≤ u1), decide (u1 ≤ u1), decide (0 ≤ p1.2.1), decide (p1.2.1 ≤ (u1.toNat : Int))] c8 (Zb (Zt ?_))
 obtain ⟨y10, q39, h40⟩ := bind_some h9
 refine JP (s' := ⟨71, [(0, .int .i64 a0), (6, .asl 0 0 p1.1.length), (8, .int .i64 u1), (29, .int .i64 a1), (30, .int .i64 p1.2.2), (37, wF p1 false), (38, .int .i64 (((u1.toNat) - p1.2.1.toNat : Nat) : Int)), (39, .int .i64 0)], [aL 1 (cl 1 (ci .i64)) p1.1]⟩) (Vi) (Wn (KD (f := M.XS a0 p1) (fun (p3 : u15 × Int) => ∃ t, p3.1 = p1.1 ++ t) (fun (p3 : u15 × Int) (g : Bool) => ⟨71, [(0, .int .i64 a0), (6, .asl 0 0 p3.1.length), (8, .int .i64 u1), (29, .int .i64 a1), (30, .int .i64 p1.2.2), (37, wF p1 g), (38, .int .i64 (((u1.toNat) - p1.2.1.toNat : Nat) : Int)), (39, .int .i64 p3.2)], [aL 1 (cl 1 (ci .i64)) p3.1]⟩) (fun z => OutE 2 (fun z => ⟨71, [(0, .int .i64 a0), (6, .asl 0 0 z.length), (8, .int .i64 u1), (29, .int .i64 a1), (30, .int .i64 p1.2.2)], [aL 1 (cl 1 (ci .i64)) z]⟩) z) (failJ2 a0 p1) ?_ (x := (p1.1, 0)) (y := y10) (Ju q39) ⟨[], (List.append_nil _).symm⟩ false) ?_)
 intro p3 y4 g hJ h10
 let u2 := u12.getD p3.2.toNat default
 let u3 : Nat × D := (6, .asl 0 0 p3.1.length)
 let u9 := (u2.length : Int)
 let u10 : List Bool := [decide (0 ≤ p3.2), decide (p3.2 < (((u1.toNat) - p1.2.1.toNat : Nat) : Int))]
 let u13 : Nat × D := (40, .bool (decide (p3.2 < (((u1.toNat) - p1.2.1.toNat : Nat) : Int))))
 have hF := failF c8
 unfold M.XS at h10
 refine Za (rg0 [0, 6, 8, 29, 30, 37, 38, 39, 40] 1 ⟨71, [(0, .int .i64 a0), u3, (8, .int .i64 u1), (29, .int .i64 a1), (30, .int .i64 p1.2.2), (37, wF p1 g), (38, .int .i64 (((u1.toNat) - p1.2.1.toNat : Nat) : Int)), (39, .int .i64 p3.2), u13], [aL 1 (cl 1 (ci .i64)) p3.1]⟩ (Zb (Za (cn h10 (fun _ h12 => ?_) (fun _ h13 => ?_)))) (by cases g <;> kernel_rfl))
 refine Zf (Zb (Za (Zt (Za ?_))))
 obtain ⟨c14, h15⟩ := ZP h12
 have hc14 : ∀ b ∈ u10, b = true := failC c14
 have e14 : p3.1.getD (0 + p1.2.1.toNat + p3.2.toNat) default = u12.getD p3.2.toNat default := failE hJ c14
 refine two (s := fun g => ⟨71, [(0, .int .i64 a0), u3, (8, .int .i64 u1), (29, .int .i64 a1), (30, .int .i64 p1.2.2), (37, wF p1 g), (38, .int .i64 (((u1.toNat) - p1.2.1.toNat : Nat) : Int)), (39, .int .i64 p3.2), u13], [aL 1 (cl 1 (ci .i64)) p3.1]⟩) (s' := fun g => ⟨71, [(0, .int .i64 a0), u3, (8, .int .i64 u1), (10, sL 1 (ci .i64) u2), (29, .int .i64 a1), (30, .int .i64 p1.2.2), (37, wF p1 g), (38, .int .i64 (((u1.toNat) - p1.2.1.toNat : Nat) : Int)), (39, .int .i64 p3.2)], [aL 1 (cl 1 (ci .i64)) p3.1]⟩) g (fun k => rgc [0, 6, 8, 10, 29, 30, 37, 38, 39] 1 ⟨71, [(0, .int .i64 a0), u3, (8, .int .i64 u1), (10, sL 1 (ci .i64) (p3.1.getD (0 + p1.2.1.toNat + p3.2.toNat) default)), (29, .int .i64 a1), (30, .int .i64 p1.2.2), (37, wF p1 false), (38, .int .i64 (((u1.toNat) - p1.2.1.toNat : Nat) : Int)), (39, .int .i64 p3.2)], [aL 1 (cl 1 (ci .i64)) p3.1]⟩ u10 hc14 (by rw [e14]; exact k)) (fun k => rgc [0, 6, 8, 10, 29, 30, 37, 38, 39] 1 ⟨71, [(0, .int .i64 a0), u3, (8, .int .i64 u1), (10, sL 1 (ci .i64) u2), (29, .int .i64 a1), (30, .int .i64 p1.2.2), (37, wF p1 true), (38, .int .i64 (((u1.toNat) - p1.2.1.toNat : Nat) : Int)), (39, .int .i64 p3.2)], [aL 1 (cl 1 (ci .i64)) p3.1]⟩ [decide (0 ≤ p3.2), decide (p3.2 < (u12.length : Int))] c14 k) (Zb (Za (rg0 [0, 6, 8, 10, 11, 29, 30, 37, 38, 39] 1 ⟨71, [(0, .int .i64 a0), u3, (8, .int .i64 u1), (10, sL 1 (ci .i64) u2), (11, .int .i64 0), (29, .int .i64 a1), (30, .int .i64 p1.2.2), (37, wF p1 g), (38, .int .i64 (((u1.toNat) - p1.2.1.toNat : Nat) : Int)), (39, .int .i64 p3.2)], [aL 1 (cl 1 (ci .i64)) p3.1]⟩ (Zb (GW (fun (p5 : Int) => ⟨71, [(0, .int .i64 a0), u3, (8, .int .i64 u1), (10, sL 1 (ci .i64) u2), (11, .int .i64 p5), (29, .int .i64 a1), (30, .int .i64 p1.2.2), (37, wF p1 g), (38, .int .i64 (((u1.toNat) - p1.2.1.toNat : Nat) : Int)), (39, .int .i64 p3.2)], [aL 1 (cl 1 (ci .i64)) p3.1]⟩) (fun p5 => M.Xv a0 p1 p3 p5 = some y4) ?_ ?_)) (by cases g <;> kernel_rfl))))
 intro p5 h17
 unfold M.Xv at h17
 refine Za (rg0 [0, 6, 8, 10, 12, 29, 30, 37, 38, 39] 1 ⟨71, [(0, .int .i64 a0), u3, (8, .int .i64 u1), (10, sL 1 (ci .i64) u2), (12, .int .i64 p5), (29, .int .i64 a1), (30, .int .i64 p1.2.2), (37, wF p1 g), (38, .int .i64 (((u1.toNat) - p1.2.1.toNat : Nat) : Int)), (39, .int .i64 p3.2)], [aL 1 (cl 1 (ci .i64)) p3.1]⟩ (Zb (Zt ?_)) (by cases g <;> kernel_rfl))
 obtain ⟨y9, q28, h29⟩ := bind_some h17
 refine JP (s' := ⟨71, [(0, .int .i64 a0), u3, (8, .int .i64 u1), (10, sL 1 (ci .i64) u2), (12, .int .i64 p5), (29, .int .i64 a1), (30, .int .i64 p1.2.2), (37, wF p1 g), (38, .int .i64 (((u1.toNat) - p1.2.1.toNat : Nat) : Int)), (39, .int .i64 p3.2)], [aL 1 (cl 1 (ci .i64)) p3.1]⟩) (Vi) (Wn (KD (f := M.XH a0 p1 p3) (fun (p3 : u15 × Int) => ∃ t, p3.1 = p1.1 ++ t) (fun (p6 : u15 × Int) (g : Bool) => ⟨71, [(0, .int .i64 a0), (6, .asl 0 0 p6.1.length), (8, .int .i64 u1), (10, sL 1 (ci .i64) u2), (12, .int .i64 p6.2), (29, .int .i64 a1), (30, .int .i64 p1.2.2), (37, wF p1 g), (38, .int .i64 (((u1.toNat) - p1.2.1.toNat : Nat) : Int)), (39, .int .i64 p3.2)], [aL 1 (cl 1 (ci .i64)) p6.1]⟩) (fun z => OutL 4 (fun z (g : Bool) => ⟨71, [(0, .int .i64 a0), (6, .asl 0 0 z.length), (8, .int .i64 u1), (29, .int .i64 a1), (30, .int .i64 p1.2.2), (37, wF p1 g), (38, .int .i64 (((u1.toNat) - p1.2.1.toNat : Nat) : Int)), (39, .int .i64 p3.2)], [aL 1 (cl 1 (ci .i64)) z]⟩) z) (failJ3 a0 p1 p3) ?_ (x := (p3.1, p5)) (y := y9) (Ju q28) hJ g) ?_)
 intro p6 y7 g1 hJ1 h18
 let u4 : Nat × D := (6, .asl 0 0 p6.1.length)
 let u6 := p6.1.length + 1
 let u8 : Nat × D := (59, .asl 0 0 p6.1.length)
 let u16 : Nat × D := (6, .asl 0 0 u6)
 let u18 := u6 * 24 ≤ 140737488355328
 unfold M.XH at h18
 refine Za (Za (rg0 [0, 6, 8, 10, 12, 29, 30, 37, 38, 39, 56] 1 ⟨71, [(0, .int .i64 a0), u4, (8, .int .i64 u1), (10, sL 1 (ci .i64) u2), (12, .int .i64 p6.2), (29, .int .i64 a1), (30, .int .i64 p1.2.2), (37, wF p1 g1), (38, .int .i64 (((u1.toNat) - p1.2.1.toNat : Nat) : Int)), (39, .int .i64 p3.2), (56, .bool (decide (p6.2 < a0)))], [aL 1 (cl 1 (ci .i64)) p6.1]⟩ (Zb (cn h18 (fun _ h20 => ?_) (fun _ h21 => ?_))) (by cases g1 <;> kernel_rfl)))
 refine Zf (Zb (Za (Zt ?_)))
 obtain ⟨r8, q22, h23⟩ := bind_some h20
 let u5 := r8 ++ [p6.2]
 let u11 := p6.1 ++ [r8 ++ [p6.2]]
 let u14 := r8.length + 1
 let u17 := u14 * 8 ≤ 140737488355328
 obtain ⟨c24, h25⟩ := ZP h23
 obtain ⟨c26, h27⟩ := ZP h25
 refine twoE (s := fun g => ⟨71, [(0, .int .i64 a0), u4, (8, .int .i64 u1), (10, sL 1 (ci .i64) u2), (12, .int .i64 p6.2), (29, .int .i64 a1), (30, .int .i64 p1.2.2), (37, wF p1 g), (38, .int .i64 (((u1.toNat) - p1.2.1.toNat : Nat) : Int)), (39, .int .i64 p3.2), (56, .bool (decide (p6.2 < a0)))], [aL 1 (cl 1 (ci .i64)) p6.1]⟩) (s' := fun g => ⟨71, [(0, .int .i64 a0), u16, (8, .int .i64 u1), (10, sL 1 (ci .i64) u2), (12, .int .i64 p6.2), (29, .int .i64 a1), (30, .int .i64 p1.2.2), (37, wF p1 g), (38, .int .i64 (((u1.toNat) - p1.2.1.toNat : Nat) : Int)), (39, .int .i64 p3.2)], [.arr 1 u6 (app (fun i => (cl 1 (ci .i64)) (p6.1.getD i default)) p6.1.length (fun i => List.take 1 (List.drop (i * 1) [sL 1 (ci .i64) u5])))]⟩) g1 (fun k => rgT 6 7 37 [oL 1 (ci .i64) r8] [0, 6, 8, 10, 12, 29, 30, 37, 38, 39, 59, 64] 2 ⟨71, [(0, .int .i64 a0), u4, (8, .int .i64 u1), (10, sL 1 (ci .i64) u2), (12, .int .i64 p6.2), (29, .int .i64 a1), (30, .int .i64 p1.2.2), (37, wF p1 false), (38, .int .i64 (((u1.toNat) - p1.2.1.toNat : Nat) : Int)), (39, .int .i64 p3.2), u8, (64, .asl 1 0 u14)], [aL 1 (cl 1 (ci .i64)) p6.1, .arr 1 u14 (app (fun i => (ci .i64) (r8.getD i default)) r8.length (fun i => List.take 1 (List.drop (i * 1) [.int .i64 p6.2])))]⟩ [decide u17] [⟨true, 49, [sL 1 (ci .i64) u2], oL 1 (ci .i64) r8⟩] c24 ⟨fun _ => Jr u2 r8 q22, trivial⟩ ⟨71, [(0, .int .i64 a0), u4, (8, .int .i64 u1), (10, sL 1 (ci .i64) u2), (12, .int .i64 p6.2), (29, .int .i64 a1), (30, .int .i64 p1.2.2), (37, wF p1 false), (38, .int .i64 (((u1.toNat) - p1.2.1.toNat : Nat) : Int)), (39, .int .i64 p3.2), u8, (64, sL 1 (ci .i64) u5)], [aL 1 (cl 1 (ci .i64)) p6.1, aL 1 (ci .i64) ([] : List Int)]⟩ (Le.trans (s' := ⟨71, [(0, .int .i64 a0), u4, (8, .int .i64 u1), (10, sL 1 (ci .i64) u2), (12, .int .i64 p6.2), (29, .int .i64 a1), (30, .int .i64 p1.2.2), (37, wF p1 false), (38, .int .i64 (((u1.toNat) - p1.2.1.toNat : Nat) : Int)), (39, .int .i64 p3.2), u8, (64, .asl 1 0 (u5.length))], [aL 1 (cl 1 (ci .i64)) p6.1, aL 1 (ci .i64) u5]⟩) (Y5 (.cons Sub.rfl (.cons Sub.rfl (.cons Sub.rfl (.cons Sub.rfl (.cons Sub.rfl (.cons Sub.rfl (.cons Sub.rfl (.cons Sub.rfl (.cons Sub.rfl (.cons Sub.rfl (.cons Sub.rfl (.cons (Qk (QZ _ _)) .nil)))))))))))) (.cons .rfl (.cons (.arr (QZ _ _) (Wp (ci .i64) r8 p6.2 _ rfl)) .nil))) (Le.trans (KZ 64 1 1 (ci .i64) u5 (fun i => (ci .i64) (([] : List Int).getD i default)) (by kernel_rfl) (by kernel_rfl) (by kernel_rfl)) (kp [0, 6, 8, 10, 12, 29, 30, 37, 38, 39, 59, 64]))) [0, 6, 8, 10, 12, 29, 30, 37, 38, 39, 59, 65] 1 [decide (0 + p1.2.1.toNat + u7 ≤ p6.1.length + 1), decide u18] (failN hJ1 hF c26) [0, 6, 8, 10, 12, 29, 30, 37, 38, 39] 1 ⟨71, [(0, .int .i64 a0), u16, (8, .int .i64 u1), (10, sL 1 (ci .i64) u2), (12, .int .i64 p6.2), (29, .int .i64 a1), (30, .int .i64 p1.2.2), (37, wF p1 false), (38, .int .i64 (((u1.toNat) - p1.2.1.toNat : Nat) : Int)), (39, .int .i64 p3.2)], [.arr 1 u6 (app (fun i => (cl 1 (ci .i64)) (p6.1.getD i default)) p6.1.length (fun i => List.take 1 (List.drop (i * 1) [sL 1 (ci .i64) u5])))]⟩ ⟨71, [(0, .int .i64 a0), u16, (8, .int .i64 u1), (10, sL 1 (ci .i64) u2), (12, .int .i64 p6.2), (29, .int .i64 a1), (30, .int .i64 p1.2.2), (37, .sl false 1 u7 (fun i => cl 1 (ci .i64) (p6.1.getD (0 + p1.2.1.toNat + i) default))), (38, .int .i64 (((u1.toNat) - p1.2.1.toNat : Nat) : Int)), (39, .int .i64 p3.2)], [.arr 1 u6 (app (fun i => (cl 1 (ci .i64)) (p6.1.getD i default)) p6.1.length (fun i => List.take 1 (List.drop (i * 1) [sL 1 (ci .i64) u5])))]⟩ (k false) (YQ (Yy (Y5 (.cons Sub.rfl (.cons Sub.rfl (.cons Sub.rfl (.cons Sub.rfl (.cons Sub.rfl (.cons Sub.rfl (.cons Sub.rfl (.cons (failS hJ1 hF) (.cons Sub.rfl (.cons Sub.rfl .nil)))))))))) .rfl) (k true)))) (fun k => rgx 6 [oL 1 (ci .i64) r8] [0, 6, 8, 10, 12, 29, 30, 37, 38, 39, 59, 64] 2 ⟨71, [(0, .int .i64 a0), u4, (8, .int .i64 u1), (10, sL 1 (ci .i64) u2), (12, .int .i64 p6.2), (29, .int .i64 a1), (30, .int .i64 p1.2.2), (37, wF p1 true), (38, .int .i64 (((u1.toNat) - p1.2.1.toNat : Nat) : Int)), (39, .int .i64 p3.2), u8, (64, .asl 1 0 u14)], [aL 1 (cl 1 (ci .i64)) p6.1, .arr 1 u14 (app (fun i => (ci .i64) (r8.getD i default)) r8.length (fun i => List.take 1 (List.drop (i * 1) [.int .i64 p6.2])))]⟩ [decide u17] [⟨true, 49, [sL 1 (ci .i64) u2], oL 1 (ci .i64) r8⟩] c24 ⟨fun _ => Jr u2 r8 q22, trivial⟩ ⟨71, [(0, .int .i64 a0), u4, (8, .int .i64 u1), (10, sL 1 (ci .i64) u2), (12, .int .i64 p6.2), (29, .int .i64 a1), (30, .int .i64 p1.2.2), (37, wF p1 true), (38, .int .i64 (((u1.toNat) - p1.2.1.toNat : Nat) : Int)), (39, .int .i64 p3.2), u8, (64, sL 1 (ci .i64) u5)], [aL 1 (cl 1 (ci .i64)) p6.1, aL 1 (ci .i64) ([] : List Int)]⟩ (Le.trans (s' := ⟨71, [(0, .int .i64 a0), u4, (8, .int .i64 u1), (10, sL 1 (ci .i64) u2), (12, .int .i64 p6.2), (29, .int .i64 a1), (30, .int .i64 p1.2.2), (37, wF p1 true), (38, .int .i64 (((u1.toNat) - p1.2.1.toNat : Nat) : Int)), (39, .int .i64 p3.2), u8, (64, .asl 1 0 (u5.length))], [aL 1 (cl 1 (ci .i64)) p6.1, aL 1 (ci .i64) u5]⟩) (Y5 (.cons Sub.rfl (.cons Sub.rfl (.cons Sub.rfl (.cons Sub.rfl (.cons Sub.rfl (.cons Sub.rfl (.cons Sub.rfl (.cons Sub.rfl (.cons Sub.rfl (.cons Sub.rfl (.cons Sub.rfl (.cons (Qk (QZ _ _)) .nil)))))))))))) (.cons .rfl (.cons (.arr (QZ _ _) (Wp (ci .i64) r8 p6.2 _ rfl)) .nil))) (Le.trans (KZ 64 1 1 (ci .i64) u5 (fun i => (ci .i64) (([] : List Int).getD i default)) (by kernel_rfl) (by kernel_rfl) (by kernel_rfl)) (kp [0, 6, 8, 10, 12, 29, 30, 37, 38, 39, 59, 64]))) rfl [] [0, 6, 8, 10, 12, 29, 30, 37, 38, 39] 1 ⟨71, [(0, .int .i64 a0), u16, (8, .int .i64 u1), (10, sL 1 (ci .i64) u2), (12, .int .i64 p6.2), (29, .int .i64 a1), (30, .int .i64 p1.2.2), (37, wF p1 true), (38, .int .i64 (((u1.toNat) - p1.2.1.toNat : Nat) : Int)), (39, .int .i64 p3.2)], [.arr 1 u6 (app (fun i => (cl 1 (ci .i64)) (p6.1.getD i default)) p6.1.length (fun i => List.take 1 (List.drop (i * 1) [sL 1 (ci .i64) u5])))]⟩ [decide u18] [] c26 trivial (k true)) ?_
 intro g2
 refine YQ (Yy (s' := ⟨71, [(0, .int .i64 a0), (6, .asl 0 0 (u11.length)), (8, .int .i64 u1), (10, sL 1 (ci .i64) u2), (12, .int .i64 p6.2), (29, .int .i64 a1), (30, .int .i64 p1.2.2), (37, wF p1 g2), (38, .int .i64 (((u1.toNat) - p1.2.1.toNat : Nat) : Int)), (39, .int .i64 p3.2)], [aL 1 (cl 1 (ci .i64)) u11]⟩) (Y5 (.cons Sub.rfl (.cons (Qk (QZ _ _)) (.cons Sub.rfl (.cons Sub.rfl (.cons Sub.rfl (.cons Sub.rfl (.cons Sub.rfl (.cons Sub.rfl (.cons Sub.rfl (.cons Sub.rfl .nil)))))))))) (.cons (.arr (QZ _ _) (Wp (cl 1 (ci .i64)) p6.1 u5 _ rfl)) .nil)) (rg0 [0, 6, 8, 10, 12, 29, 30, 37, 38, 39] 1 ⟨71, [(0, .int .i64 a0), (6, .asl 0 0 (u11.length)), (8, .int .i64 u1), (10, sL 1 (ci .i64) u2), (12, .int .i64 (wr .i64 (p6.2 + 1))), (29, .int .i64 a1), (30, .int .i64 p1.2.2), (37, wF p1 g2), (38, .int .i64 (((u1.toNat) - p1.2.1.toNat : Nat) : Int)), (39, .int .i64 p3.2)], [aL 1 (cl 1 (ci .i64)) u11]⟩ ?_ (by cases g2 <;> kernel_rfl)))
 obtain rfl := Option.some.inj h27
 exact Wq g2 (Vi)
 refine Xi (X8 ?_)
 obtain rfl := Option.some.inj h21
 exact UD ⟨rfl, LeE.of g1 (by cases g1 <;> exact kp [0, 6, 8, 29, 30, 37, 38, 39])⟩
 intro e30 s31 o32
 obtain ⟨rfl, l33⟩ := o32
 refine JE (YQ (UC l33 fun g3 => (rg0 [0, 6, 8, 29, 30, 37, 38, 39] 1 ⟨71, [(0, .int .i64 a0), (6, .asl 0 0 y9.length), (8, .int .i64 u1), (29, .int .i64 a1), (30, .int .i64 p1.2.2), (37, wF p1 g3), (38, .int .i64 (((u1.toNat) - p1.2.1.toNat : Nat) : Int)), (39, .int .i64 (wr .i64 (p3.2 + 1)))], [aL 1 (cl 1 (ci .i64)) y9]⟩ ?_ (by cases g3 <;> kernel_rfl))))
 obtain rfl := Option.some.inj h29
 exact Wq g3 (Vi)
 intro k16
 refine Za (rg0 [0, 6, 8, 10, 11, 29, 30, 37, 38, 39, 45] 1 ⟨71, [(0, .int .i64 a0), u3, (8, .int .i64 u1), (10, sL 1 (ci .i64) u2), (11, .int .i64 0), (29, .int .i64 a1), (30, .int .i64 p1.2.2), (37, wF p1 g), (38, .int .i64 (((u1.toNat) - p1.2.1.toNat : Nat) : Int)), (39, .int .i64 p3.2), (45, .bool (decide (u9 > 0)))], [aL 1 (cl 1 (ci .i64)) p3.1]⟩ (Zb (cn h15 (fun _ h35 => ?_) (fun _ h36 => ?_))) (by cases g <;> kernel_rfl))
 obtain ⟨c37, h38⟩ := ZP h35
 exact rgc [0, 6, 8, 10, 11, 29, 30, 37, 38, 39] 1 ⟨71, [(0, .int .i64 a0), u3, (8, .int .i64 u1), (10, sL 1 (ci .i64) u2), (11, .int .i64 (wr .i64 ((u2.getD (wr .i64 (u9 - 1)).toNat default) + 1))), (29, .int .i64 a1), (30, .int .i64 p1.2.2), (37, wF p1 g), (38, .int .i64 (((u1.toNat) - p1.2.1.toNat : Nat) : Int)), (39, .int .i64 p3.2)], [aL 1 (cl 1 (ci .i64)) p3.1]⟩ [decide (0 ≤ (wr .i64 (u9 - 1))), decide ((wr .i64 (u9 - 1)) < u9)] c37 (Yy lk (k16 (wr .i64 ((u2.getD (wr .i64 (u9 - 1)).toNat default) + 1)) h38)) (by cases g <;> kernel_rfl)
 exact Zf (Yy (by cases g <;> exact kp [0, 6, 8, 10, 11, 29, 30, 37, 38, 39]) (k16 0 h36))
 refine Xi (X8 ?_)
 obtain rfl := Option.some.inj h13
 exact UD ⟨rfl, kp [0, 6, 8, 29, 30]⟩
 intro e41 s42 o43
 exact zi o43 (zg [0, 6, 7, 29, 30] 1 (YQ (Zb (zg [0, 6, 7, 29, 30] 1 (rn h40)))))
 exact Xi (X8 (re h7 ⟨rfl, kq⟩))
 intro e47 s48 o49
 refine zi o49 (Za (zg [4, 5] 1 (Zb (Zs ?_))))
 obtain rfl := Option.some.inj h46
 exact er (.tup [.sl false 1 y11.length (fun i => (cl 1 (ci .i64)) (y11.getD (0 + i) default)), .int .i64 0]) (GB (.cons RH (.cons ASub.rfl .nil)))
theorem UN (a0 : Int) (a1 : Int) (r : (List (List Int)) × Int) (h : M.X3 a0 a1 = some r) : Fn Tryz.prog 21 [.int .i64 a0, .int .i64 a1] (.pure (.tup [sL 1 (cl 1 (ci .i64)) r.1, .int .i64 r.2])) := by
 let u1 := List (List Int)
 unfold M.X3 at h
 refine ZR Tryz.func21 rfl (by kernel_rfl) (Za (zg [0, 1] 0 (Zb (Za (Za (rg0 [0, 1, 23] 0 ⟨63, [(0, .int .i64 a0), (1, .int .i64 a1), (23, .bool ((((decide (a0 < 0)) || (decide (a0 > 12))) || (decide (a1 < 0))) || (decide (a1 > 2))))], []⟩ (Zb (cn h (fun _ h2 => ?_) (fun _ h3 => ?_)))))))))
 refine Za (zg [4, 5] 0 (Zb (Zs (Xk ?_))))
 obtain rfl := Option.some.inj h2
 exact er (.tup [.sl false 1 0 (fun _ => []), .int .i64 1]) (GB (.cons RG (.cons ASub.rfl .nil)))
 refine Zf (Zb (Za (rgo 1 [] [0, 1, 24] 0 ⟨63, [(0, .int .i64 a0), (1, .int .i64 a1), (24, .sl true 1 0 (fun i => List.take 1 (List.drop (i * 1) [])))], []⟩ [] [] ZA trivial _ (ZaT (sz := 1) (len := 1) (f := fun i => List.take 1 (List.drop (i * 1) [.sl true 1 0 (fun i => List.take 1 (List.drop (i * 1) []))])) rfl rfl rfl rfl rfl (by kernel_rfl)) [] [0, 1, 6] 1 (fun _ => ⟨63, [(0, .int .i64 a0), (1, .int .i64 a1), (6, .asl 0 0 1)], [.arr 1 1 (fun i => List.take 1 (List.drop (i * 1) [.sl true 1 0 (fun i => List.take 1 (List.drop (i * 1) []))]))]⟩) (fun _ => []) (fun _ => []) (fun _ => ZA) (fun _ => trivial) (fun _ => (Yy (s' := ⟨63, [(0, .int .i64 a0), (1, .int .i64 a1), (6, .asl 0 0 (([([] : List Int)] : List (List Int)).length))], [aL 1 (cl 1 (ci .i64)) ([([] : List Int)] : List (List Int))]⟩) (Y5 (.cons Sub.rfl (.cons Sub.rfl (.cons (Qk rfl) .nil))) (.cons (.arp rfl (KF (.cons G8 .nil))) .nil)) (Za (Za (zg [0, 1, 6, 7] 1 (Zb (Zt ?_))))))))))
 obtain ⟨y3, q10, h11⟩ := bind_some h3
 refine zl (fun (p1 : u1 × Int) => ⟨63, [(0, .int .i64 a0), (1, .int .i64 a1), (6, .asl 0 0 p1.1.length), (7, .int .i64 p1.2)], [aL 1 (cl 1 (ci .i64)) p1.1]⟩) (fun z => OutE 0 (fun z => ⟨63, [(0, .int .i64 a0), (1, .int .i64 a1), (6, .asl 0 0 z.length)], [aL 1 (cl 1 (ci .i64)) z]⟩) z) q10 ?_ ?_
 intro p1 y2 h4
 unfold M.Yo at h4
 refine Za (Za (zg [0, 1, 6, 7, 32] 1 (Zb (cn h4 (fun _ h6 => ?_) (fun _ h7 => ?_)))))
 refine Zf (Zb (Za (Zt ?_)))
 obtain ⟨c8, h9⟩ := ZP h6
 exact rgc [0, 1, 6, 7] 1 ⟨63, [(0, .int .i64 a0), (1, .int .i64 a1), (6, .asl 0 0 (p1.1.length + 1)), (7, .int .i64 p1.2)], [.arr 1 (p1.1.length + 1) (app (fun i => (cl 1 (ci .i64)) (p1.1.getD i default)) p1.1.length (fun i => List.take 1 (List.drop (i * 1) [.sl true 1 1 (fun i => List.take 1 (List.drop (i * 1) [.int .i64 p1.2]))])))]⟩ [decide ((p1.1.length + 1) * 24 ≤ 140737488355328)] c8 (YQ (Yy (s' := ⟨63, [(0, .int .i64 a0), (1, .int .i64 a1), (6, .asl 0 0 ((p1.1 ++ [([p1.2] : List Int)]).length)), (7, .int .i64 p1.2)], [aL 1 (cl 1 (ci .i64)) (p1.1 ++ [([p1.2] : List Int)])]⟩) (Y5 (.cons Sub.rfl (.cons Sub.rfl (.cons (Qk (QZ _ _)) (.cons Sub.rfl .nil)))) (.cons (.arp (QZ _ _) (KG (cl 1 (ci .i64)) (x := ([p1.2] : List Int)) (f := fun i => (cl 1 (ci .i64)) (p1.1.getD i default)) (g := fun i => List.take 1 (List.drop (i * 1) [.sl true 1 1 (fun i => List.take 1 (List.drop (i * 1) [.int .i64 p1.2]))])) rfl (fun _ _ => rfl) (.cons (Uv rfl (fun i hi => match i, hi with | 0, _ => (.cons PSub.rfl .nil) | n + 1, h => absurd h (by omega))) .nil))) .nil)) (zg [0, 1, 6, 7] 1 (rn h9))))
 exact Xi (X8 (re h7 ⟨rfl, kq⟩))
 intro e12 s13 o14
 refine zi o14 (Za (Za (zg [0, 1, 6, 8] 1 (Zb (Zt ?_)))))
 obtain ⟨y9, q32, h33⟩ := bind_some h11
 refine zl (fun (p4 : u1 × Int) => ⟨63, [(0, .int .i64 a0), (1, .int .i64 a1), (6, .asl 0 0 p4.1.length), (8, .int .i64 p4.2)], [aL 1 (cl 1 (ci .i64)) p4.1]⟩) (fun z => OutE 2 (fun z => ⟨63, [(6, .asl 0 0 z.length)], [aL 1 (cl 1 (ci .i64)) z]⟩) z) q32 ?_ ?_
 intro p4 y5 h16
 unfold M.Yq at h16
 refine Za (Za (zg [0, 1, 6, 8, 46] 1 (Zb (cn h16 (fun _ h18 => ?_) (fun _ h19 => ?_)))))
 refine Zf (Zb (Za (Zt (Za (zg [0, 1, 6, 8, 9] 1 (Zb (Zt ?_)))))))
 obtain ⟨y8, q26, h27⟩ := bind_some h18
 refine zl (fun (p6 : u1 × Int) => ⟨63, [(0, .int .i64 a0), (1, .int .i64 a1), (6, .asl 0 0 p6.1.length), (8, .int .i64 p4.2), (9, .int .i64 p6.2)], [aL 1 (cl 1 (ci .i64)) p6.1]⟩) (fun z => OutE 4 (fun z => ⟨63, [(0, .int .i64 a0), (1, .int .i64 a1), (6, .asl 0 0 z.length), (8, .int .i64 p4.2)], [aL 1 (cl 1 (ci .i64)) z]⟩) z) q26 ?_ ?_
 intro p6 y7 h20
 unfold M.Yp at h20
 refine Za (Za (zg [0, 1, 6, 8, 9, 53] 1 (Zb (cn h20 (fun _ h22 => ?_) (fun _ h23 => ?_)))))
 refine Zf (Zb (Za (Zt ?_)))
 obtain ⟨c24, h25⟩ := ZP h22
 exact rgc [0, 1, 6, 8, 9] 1 ⟨63, [(0, .int .i64 a0), (1, .int .i64 a1), (6, .asl 0 0 (p6.1.length + 1)), (8, .int .i64 p4.2), (9, .int .i64 p6.2)], [.arr 1 (p6.1.length + 1) (app (fun i => (cl 1 (ci .i64)) (p6.1.getD i default)) p6.1.length (fun i => List.take 1 (List.drop (i * 1) [.sl true 1 2 (fun i => List.take 1 (List.drop (i * 1) [.int .i64 p4.2, .int .i64 p6.2]))])))]⟩ [decide ((p6.1.length + 1) * 24 ≤ 140737488355328)] c24 (YQ (Yy (s' := ⟨63, [(0, .int .i64 a0), (1, .int .i64 a1), (6, .asl 0 0 ((p6.1 ++ [([p4.2, p6.2] : List Int)]).length)), (8, .int .i64 p4.2), (9, .int .i64 p6.2)], [aL 1 (cl 1 (ci .i64)) (p6.1 ++ [([p4.2, p6.2] : List Int)])]⟩) (Y5 (.cons Sub.rfl (.cons Sub.rfl (.cons (Qk (QZ _ _)) (.cons Sub.rfl (.cons Sub.rfl .nil))))) (.cons (.arp (QZ _ _) (KG (cl 1 (ci .i64)) (x := ([p4.2, p6.2] : List Int)) (f := fun i => (cl 1 (ci .i64)) (p6.1.getD i default)) (g := fun i => List.take 1 (List.drop (i * 1) [.sl true 1 2 (fun i => List.take 1 (List.drop (i * 1) [.int .i64 p4.2, .int .i64 p6.2]))])) rfl (fun _ _ => rfl) (.cons (Uv rfl (fun i hi => match i, hi with | 0, _ => (.cons PSub.rfl .nil) | 1, _ => (.cons PSub.rfl .nil) | n + 2, h => absurd h (by omega))) .nil))) .nil)) (zg [0, 1, 6, 8, 9] 1 (rn h25))))
 exact Xi (X8 (re h23 ⟨rfl, kq⟩))
 intro e28 s29 o30
 obtain ⟨rfl, l31⟩ := o30
 exact JE (YQ (Yy (s' := ⟨63, [(0, .int .i64 a0), (1, .int .i64 a1), (6, .asl 0 0 y8.length), (8, .int .i64 p4.2)], [aL 1 (cl 1 (ci .i64)) y8]⟩) (l31) (zg [0, 1, 6, 8] 1 (rn h27))))
 exact Xi (X8 (re h19 ⟨rfl, kq⟩))
 intro e34 s35 o36
 refine zi o36 (Za (zg [4, 5] 1 (Zb (Zs ?_))))
 obtain rfl := Option.some.inj h33
 exact er (.tup [.sl false 1 y9.length (fun i => (cl 1 (ci .i64)) (y9.getD (0 + i) default)), .int .i64 0]) (GB (.cons RH (.cons ASub.rfl .nil)))
theorem Rg (a0 : List Int) (a1 : List Int) (r : Bool) (h : M.VJ a0 a1 = some r) : Fn Tryz.prog 18 [sL 1 (ci .i64) a0, sL 1 (ci .i64) a1] (.pure (.bool r)) := by
 unfold M.VJ at h
 refine ZR Tryz.func18 rfl (by kernel_rfl) (Za (zg [0, 1] 0 (Zb (Za (Za (zg [0, 1, 10] 0 (Zb (cn h (fun _ h2 => ?_) (fun _ h3 => ?_)))))))))
 exact Za (zg [4] 0 (Zb (Zs (Xk (er1 h2)))))
 refine Zf (Zb (Za (Za (zg [0, 1, 5] 0 (Zb (Zt ?_))))))
 obtain ⟨y3, q13, h14⟩ := bind_some h3
 refine zl (fun (p1 : Int) => ⟨26, [(0, sL 1 (ci .i64) a0), (1, sL 1 (ci .i64) a1), (5, .int .i64 p1)], []⟩) (Sum.elim (fun z => OutE 0 (fun z => ⟨26, [], []⟩) z) (fun z => OutR Tryz.prog Tryz.f18 (.bool z))) q13 ?_ ?_
 intro p1 y2 h4
 unfold M.JH at h4
 refine Za (Za (zg [0, 1, 5, 14] 0 (Zb (cn h4 (fun _ h6 => ?_) (fun _ h7 => ?_)))))
 refine Zf (Zb (Za (Zt (Za ?_))))
 obtain ⟨c8, h9⟩ := ZP h6
 refine zc [0, 1, 5, 25] 0 c8 (Zb (cn h9 (fun _ h11 => ?_) (fun _ h12 => ?_)))
 exact Za (zg [4] 0 (Zb (Zs (JM (Xk (rr h11 ⟨rfl, er0 _⟩))))))
 exact Zf (YQ (Zb (zg [0, 1, 5] 0 (rn h12))))
 exact Xi (X8 (re h7 ⟨rfl, kq⟩))
 intro e15 s16 o17
 rcases y3 with g4 | y5
 have h18 := VW h14
 exact zi o17 (Za (zg [4] 0 (Zb (Zs (er1 h18)))))
 have h19 := VX h14
 obtain ⟨rfl, n21⟩ := o17
 refine JM (Xk ?_)
 obtain rfl := Option.some.inj h19
 exact n21
theorem W0  (r : Z7) (h : M.Qg  = some r) : Fn Tryz.prog 47 [] (.pure (.agg (Xy r))) := by
 unfold M.Qg at h
 refine ZR Tryz.func47 rfl (by kernel_rfl) (Za (zg [0] 1 (Zb (Za (zg [0] 1 (Zb (Zs ?_)))))))
 obtain rfl := Option.some.inj h
 exact er (.agg [.sl false 25 2 (fun i => List.take 25 (List.drop (i * 25) [.str (⟨#[97]⟩ : ByteArray), .int .i64 0, .sl true 12 1 (fun i => List.take 12 (List.drop (i * 12) [.str (⟨#[101, 48]⟩ : ByteArray), .int .u32 167772161, .int .i64 24, .int .i64 0, .bool false, .bool false, .int .i64 0, .int .i64 0, .bool false, .str (⟨#[]⟩ : ByteArray), .str (⟨#[]⟩ : ByteArray), .int .i64 0])), .sl true 2 0 (fun _ => []), .sl true 2 0 (fun _ => []), .sl true 2 0 (fun _ => []), .sl true 9 0 (fun _ => []), .sl true 7 0 (fun _ => []), .bool false, .int .i64 0, .sl true 3 0 (fun _ => []), .sl true 5 0 (fun _ => []), .bool false, .int .i64 0, .str (⟨#[]⟩ : ByteArray), .str (⟨#[]⟩ : ByteArray), .sl true 5 0 (fun _ => []), .bool false, .int .i64 0, .int .i64 0, .sl true 4 0 (fun _ => []), .sl true 2 0 (fun _ => []), .sl true 3 0 (fun _ => []), .sl true 5 0 (fun _ => []), .sl true 5 0 (fun _ => []), .str (⟨#[98]⟩ : ByteArray), .int .i64 0, .sl true 12 2 (fun i => List.take 12 (List.drop (i * 12) [.str (⟨#[101, 48]⟩ : ByteArray), .int .u32 167772162, .int .i64 24, .int .i64 0, .bool false, .bool false, .int .i64 0, .int .i64 0, .bool false, .str (⟨#[]⟩ : ByteArray), .str (⟨#[]⟩ : ByteArray), .int .i64 0, .str (⟨#[101, 49]⟩ : ByteArray), .int .u32 167772418, .int .i64 24, .int .i64 0, .bool false, .bool false, .int .i64 0, .int .i64 0, .bool false, .str (⟨#[]⟩ : ByteArray), .str (⟨#[]⟩ : ByteArray), .int .i64 0])), .sl true 2 0 (fun _ => []), .sl true 2 0 (fun _ => []), .sl true 2 0 (fun _ => []), .sl true 9 0 (fun _ => []), .sl true 7 0 (fun _ => []), .bool false, .int .i64 0, .sl true 3 0 (fun _ => []), .sl true 5 0 (fun _ => []), .bool false, .int .i64 0, .str (⟨#[]⟩ : ByteArray), .str (⟨#[]⟩ : ByteArray), .sl true 5 0 (fun _ => []), .bool false, .int .i64 0, .int .i64 0, .sl true 4 0 (fun _ => []), .sl true 2 0 (fun _ => []), .sl true 3 0 (fun _ => []), .sl true 5 0 (fun _ => []), .sl true 5 0 (fun _ => [])]))]) (ZcI (.cons (ZbO rfl (fun i hi => match i, hi with | 0, _ => (.cons PSub.rfl (.cons PSub.rfl (.cons (Uv rfl (fun i hi => match i, hi with | 0, _ => (.cons PSub.rfl (.cons PSub.rfl (.cons PSub.rfl (.cons PSub.rfl (.cons PSub.rfl (.cons PSub.rfl (.cons PSub.rfl (.cons PSub.rfl (.cons PSub.rfl (.cons PSub.rfl (.cons PSub.rfl (.cons PSub.rfl .nil)))))))))))) | n + 1, h => absurd h (by omega))) (.cons XW (.cons XW (.cons XW (.cons XW (.cons XW (.cons PSub.rfl (.cons PSub.rfl (.cons XW (.cons XW (.cons PSub.rfl (.cons PSub.rfl (.cons PSub.rfl (.cons PSub.rfl (.cons XW (.cons PSub.rfl (.cons PSub.rfl (.cons PSub.rfl (.cons XW (.cons XW (.cons XW (.cons XW (.cons XW .nil))))))))))))))))))))))))) | 1, _ => (.cons PSub.rfl (.cons PSub.rfl (.cons (Uv rfl (fun i hi => match i, hi with | 0, _ => (.cons PSub.rfl (.cons PSub.rfl (.cons PSub.rfl (.cons PSub.rfl (.cons PSub.rfl (.cons PSub.rfl (.cons PSub.rfl (.cons PSub.rfl (.cons PSub.rfl (.cons PSub.rfl (.cons PSub.rfl (.cons PSub.rfl .nil)))))))))))) | 1, _ => (.cons PSub.rfl (.cons PSub.rfl (.cons PSub.rfl (.cons PSub.rfl (.cons PSub.rfl (.cons PSub.rfl (.cons PSub.rfl (.cons PSub.rfl (.cons PSub.rfl (.cons PSub.rfl (.cons PSub.rfl (.cons PSub.rfl .nil)))))))))))) | n + 2, h => absurd h (by omega))) (.cons XW (.cons XW (.cons XW (.cons XW (.cons XW (.cons PSub.rfl (.cons PSub.rfl (.cons XW (.cons XW (.cons PSub.rfl (.cons PSub.rfl (.cons PSub.rfl (.cons PSub.rfl (.cons XW (.cons PSub.rfl (.cons PSub.rfl (.cons PSub.rfl (.cons XW (.cons XW (.cons XW (.cons XW (.cons XW .nil))))))))))))))))))))))))) | n + 2, h => absurd h (by omega))) .nil))
theorem WD (a0 : Int) (r : Bool) (h : M.YZ a0 = some r) : Fn Tryz.prog 129 [.int .u8 a0] (.pure (.bool r)) := by
 unfold M.YZ at h
 exact ZR Tryz.func129 rfl (by kernel_rfl) (Za (zg [0] 0 (Zb (Za (zg [2] 0 (Zb (Zs (er1 h))))))))
theorem Kk (a0 : Int) (r : Bool) (h : M.QR a0 = some r) : Fn Tryz.prog 130 [.int .u8 a0] (.pure (.bool r)) := by
 unfold M.QR at h
 exact ZR Tryz.func130 rfl (by kernel_rfl) (Za (zg [0] 0 (Zb (Za (zg [2] 0 (Zb (Zs (er1 h))))))))
theorem UO (a0 : ByteArray) (r : Bool) (h : M.QD a0 = some r) : Fn Tryz.prog 73 [.str a0] (.pure (.bool r)) := by
 unfold M.QD at h
 refine ZR Tryz.func73 rfl (by kernel_rfl) (Za (zg [0] 0 (Zb (Za (Za ?_)))))
 obtain ⟨r1, q1, h2⟩ := bind_some h
 obtain ⟨c3, h4⟩ := ZP h2
 refine zr [0, 18] 0 c3 (rq2 (fun hg => WD _ _ (Qj q1 hg)) rqn) (Zb (cn h4 (fun _ h6 => ?_) (fun _ h7 => ?_)))
 refine Za ?_
 cases h6
 refine Zf (Zb (Za (Za (zg [0, 3] 0 (Zb (Zt ?_))))))
 obtain ⟨y6, q21, h22⟩ := bind_some h7
 refine zl (fun (p2 : Int) => ⟨52, [(0, .str a0), (3, .int .i64 p2)], []⟩) (fun z => OutE 0 (fun z => ⟨52, [], []⟩) z) q21 ?_ ?_
 intro p2 y3 h8
 unfold M.Qm at h8
 refine Za (Za (zg [0, 3, 22] 0 (Zb (cn h8 (fun _ h10 => ?_) (fun _ h11 => ?_)))))
 refine Zf (Zb (Za (Zt (Za ?_))))
 obtain ⟨c12, h13⟩ := ZP h10
 refine zc [0, 3, 4] 0 c12 (Zb (Za ?_))
 obtain ⟨r4, q14, h15⟩ := bind_some h13
 obtain ⟨r5, q16, h17⟩ := bind_some h15
 refine zr [0, 3, 51] 0 ZA (rq1 (WD _ _ q14) (rq2 (fun hg => Kk _ _ (Qj q16 hg)) rqn)) (Zb (cn h17 (fun _ h19 => ?_) (fun _ h20 => ?_)))
 refine Za ?_
 cases h19
 exact Zf (YQ (Zb (zg [0, 3] 0 (rn h20))))
 exact Xi (X8 (re h11 ⟨rfl, kq⟩))
 intro e23 s24 o25
 exact zi o25 (Za (zg [2] 0 (Zb (Zs (er1 h22)))))
theorem Jt (a0 : Int) (a1 : Int) (a2 : Int) (r : Bool) (h : M.XY a0 a1 a2 = some r) : Fn Tryz.prog 74 [.int .i64 a0, .int .i64 a1, .int .i64 a2] (.pure (.bool r)) := by
 unfold M.XY at h
 exact ZR Tryz.func74 rfl (by kernel_rfl) (Za (zg [0, 1, 2] 0 (Zb (Za (zg [6] 0 (Zb (Zs (er1 h))))))))
theorem WE (a0 : Zk) (b0 : ByteArray) (r : Bool) (h : M.X6 a0 b0 = some r) : Fn Tryz.prog 164 [.agg (Zd a0), .pp (cs b0)] (.pure (.bool r)) := by
 unfold M.X6 at h
 exact ZR Tryz.func164 rfl (by kernel_rfl) (Za (zg [1, 2] 1 (Zb (Za (zg [3] 0 (Zb (Zs (er1 h))))))))
theorem YH (a0 : List Zk) (a1c0 : ByteArray) (r : Int) (h : M.Zn a0 a1c0 = some r) : Fn Tryz.prog 146 [sL 12 Zd a0, .fn 164 [.pp (cs a1c0)]] (.pure (.int .i64 r)) := by
 unfold M.Zn at h
 refine ZR Tryz.func146 rfl (by kernel_rfl) (Za (zg [0, 1] 0 (Zb (Za (Za (zg [0, 1, 7, 8] 0 (Zb (Zt ?_))))))))
 obtain ⟨y4, q12, h13⟩ := bind_some h
 refine zl (fun (p1 : Int) => ⟨19, [(0, sL 12 Zd a0), (1, .fn 164 [.pp (cs a1c0)]), (7, .int .i64 (a0.length : Int)), (8, .int .i64 p1)], []⟩) (Sum.elim (fun z => OutE 0 (fun z => ⟨19, [], []⟩) z) (fun z => OutR Tryz.prog Tryz.f146 (.int .i64 z))) q12 ?_ ?_
 intro p1 y2 h1
 unfold M.Zr at h1
 refine Za (zg [0, 1, 7, 8, 9] 0 (Zb (Za (cn h1 (fun _ h3 => ?_) (fun _ h4 => ?_)))))
 refine Zf (Zb (Za (Zt (Za (zg [0, 1, 5, 7, 8] 0 (Zb (Za ?_)))))))
 obtain ⟨r3, q5, h6⟩ := bind_some h3
 obtain ⟨c7, h8⟩ := ZP h6
 refine zr [0, 1, 5, 7, 8, 16] 0 c7 (rq1 (WE _ _ _ q5) rqn) (Zb (cn h8 (fun _ h10 => ?_) (fun _ h11 => ?_)))
 exact Za (zg [4] 0 (Zb (Zs (JM (Xk (rr h10 ⟨rfl, er0 _⟩))))))
 exact Zf (YQ (Zb (zg [0, 1, 7, 8] 0 (rn h11))))
 exact Xi (X8 (re h4 ⟨rfl, kq⟩))
 intro e14 s15 o16
 rcases y4 with g5 | y6
 have h17 := VW h13
 exact zi o16 (Za (zg [4] 0 (Zb (Zs (er1 h17)))))
 have h18 := VX h13
 obtain ⟨rfl, n20⟩ := o16
 refine JM (Xk ?_)
 obtain rfl := Option.some.inj h18
 exact n20
theorem Uf (a0 : Zg) (a1 : ByteArray) (r : Int) (h : M.Yz a0 a1 = some r) : Fn Tryz.prog 131 [.agg (Zv a0), .str a1] (.pure (.int .i64 r)) := by
 unfold M.Yz at h
 refine ZR Tryz.func131 rfl (by kernel_rfl) (Za (zg [2, 3] 2 (Zb (Za ?_))))
 obtain ⟨r1, q1, h2⟩ := bind_some h
 exact zr [4] 0 ZA (rq1 (YH _ _ _ q1) rqn) (Zb (Zs (er1 h2)))
theorem VP (a0 : Zk) (r : Bool) (h : M.XK a0 = some r) : Fn Tryz.prog 132 [.agg (Zd a0)] (.pure (.bool r)) := by
 unfold M.XK at h
 refine ZR Tryz.func132 rfl (by kernel_rfl) (Za (zg [1] 1 (Zb (Za (Za ?_)))))
 obtain ⟨r1, q1, h2⟩ := bind_some h
 obtain ⟨r2, q3, h4⟩ := bind_some h2
 obtain ⟨r3, q5, h6⟩ := bind_some h4
 refine zr [1, 18] 1 ZA (rq1 (Jt _ _ _ _ q1) (rq2 (fun hg => Jt _ _ _ _ (Qj q3 hg)) (rq2 (fun hg => Jt _ _ _ _ (Qj q5 hg)) rqn))) (Zb (cn h6 (fun _ h8 => ?_) (fun _ h9 => ?_)))
 refine Za ?_
 cases h8
 refine Zf (Zb (Za (Za (zg [1, 54] 1 (Zb (cn h9 (fun _ h11 => ?_) (fun _ h12 => ?_)))))))
 refine Za ?_
 cases h11
 refine Zf (Zb (Za (Za (zg [1, 62] 1 (Zb (cn h12 (fun _ h14 => ?_) (fun _ h15 => ?_)))))))
 refine Za ?_
 cases h14
 refine Zf (Zb (Za (Za (zg [1, 64] 1 (Zb (cn h15 (fun _ h17 => ?_) (fun _ h18 => ?_)))))))
 refine Za ?_
 cases h17
 exact Zf (Zb (Za (zg [2] 0 (Zb (Zs (er1 h18))))))
theorem W1 (a0 : Int) (r : Int) (h : M.Qh a0 = some r) : Fn Tryz.prog 89 [.int .i64 a0] (.pure (.int .i64 r)) := by
 unfold M.Qh at h
 exact ZR Tryz.func89 rfl (by kernel_rfl) (Za (zg [0] 0 (Zb (Za (zg [2] 0 (Zb (Zs (er1 h))))))))
theorem UP (a0 : Int) (r : Int) (h : M.QE a0 = some r) : Fn Tryz.prog 88 [.int .i64 a0] (.pure (.int .u32 r)) := by
 unfold M.QE at h
 refine ZR Tryz.func88 rfl (by kernel_rfl) (Za (zg [0] 0 (Zb (Za ?_))))
 obtain ⟨r1, q1, h2⟩ := bind_some h
 obtain ⟨c3, h4⟩ := ZP h2
 exact zr [2] 0 c3 (rq1 (W1 _ _ q1) rqn) (Zb (Zs (er1 h4)))
theorem J3 (a0 : Int) (a1 : Int) (r : Z4) (h : M.Yh a0 a1 = some r) : Fn Tryz.prog 60 [.int .u32 a0, .int .i64 a1] (.pure (.agg (ZY r))) := by
 unfold M.Yh at h
 refine ZR Tryz.func60 rfl (by kernel_rfl) (Za (zg [0, 1, 4] 1 (Zb (Za ?_))))
 obtain ⟨r1, q1, h2⟩ := bind_some h
 obtain ⟨r2, q3, h4⟩ := bind_some h2
 refine zr [4] 1 ZA (rq1 (UP _ _ q1) (rq1 (W1 _ _ q3) rqn)) (Zb (Zs ?_))
 obtain rfl := Option.some.inj h4
 exact er0 (.agg [.int .u32 (bitD .and .u32 a0 r1), .int .i64 r2])
theorem U8 (a0 : Z4) (a1 : Int) (r : Bool) (h : M.YV a0 a1 = some r) : Fn Tryz.prog 179 [.agg (ZY a0), .int .u32 a1] (.pure (.bool r)) := by
 unfold M.YV at h
 refine ZR Tryz.func179 rfl (by kernel_rfl) (Za (zg [1, 2] 1 (Zb (Za ?_))))
 obtain ⟨r1, q1, h2⟩ := bind_some h
 exact zr [4] 0 ZA (rq1 (UP _ _ q1) rqn) (Zb (Zs (er1 h2)))
theorem WF (a0 : Z4) (a1 : Z4) (r : Bool) (h : M.Y0 a0 a1 = some r) : Fn Tryz.prog 165 [.agg (ZY a0), .agg (ZY a1)] (.pure (.bool r)) := by
 unfold M.Y0 at h
 refine ZR Tryz.func165 rfl (by kernel_rfl) (Za (zg [2, 3] 2 (Zb (Za ?_))))
 obtain ⟨r1, q1, h2⟩ := bind_some h
 exact zr [4] 0 ZA (rq2 (fun hg => U8 _ _ _ (Qj q1 hg)) rqn) (Zb (Zs (er1 h2)))
theorem U9 (a0 : Z4) (a1 : Z4) (r : Bool) (h : M.YW a0 a1 = some r) : Fn Tryz.prog 133 [.agg (ZY a0), .agg (ZY a1)] (.pure (.bool r)) := by
 unfold M.YW at h
 refine ZR Tryz.func133 rfl (by kernel_rfl) (Za (zg [2, 3] 2 (Zb (Za ?_))))
 obtain ⟨r1, q1, h2⟩ := bind_some h
 obtain ⟨r2, q3, h4⟩ := bind_some h2
 exact zr [4] 0 ZA (rq1 (WF _ _ _ q1) (rq2 (fun hg => WF _ _ _ (Qj q3 hg)) rqn)) (Zb (Zs (er1 h4)))
theorem VD (a0 : Zg) (r : Int) (h : M.XC a0 = some r) : Fn Tryz.prog 75 [.agg (Zv a0)] (.pure (.int .i64 r)) := by
 let u1 : Nat × D := (12, sL 12 Zd a0.Zc)
 let u2 := (a0.Zc.length : Int)
 let u5 := Zv a0
 unfold M.XC at h
 refine ZR Tryz.func75 rfl (by kernel_rfl) (Za (zg [1] 1 (Zb (Za (Za (zg [1, 10] 1 (Zb (cn h (fun _ h2 => ?_) (fun _ h3 => ?_)))))))))
 refine Za ?_
 cases h2
 refine Zf (Zb (Za (Za (zg [1, 12, 13, 14] 1 (Zb (Zt ?_))))))
 obtain ⟨y12, q48, h49⟩ := bind_some h3
 refine zl (fun (p1 : Int) => ⟨64, [(1, .ref 0 0), u1, (13, .int .i64 u2), (14, .int .i64 p1)], [.box u5]⟩) (fun z => OutE 0 (fun z => ⟨64, [], []⟩) z) q48 ?_ ?_
 intro p1 y2 h4
 let u3 : List Ob := [.box u5, .box (Zd (a0.Zc.getD p1.toNat default))]
 let u4 : Nat × D := (35, sL 12 Zd ((a0.Zc.drop 0).take (p1.toNat - 0)))
 unfold M.Xt at h4
 refine Za (zg [1, 12, 13, 14, 15] 1 (Zb (Za (cn h4 (fun _ h6 => ?_) (fun _ h7 => ?_)))))
 refine Zf (Zb (Za (Zt (Za ?_))))
 obtain ⟨c8, h9⟩ := ZP h6
 refine zc [1, 3, 4, 12, 13, 14] 2 c8 (Zb (Za (Za ?_)))
 obtain ⟨r3, q10, h11⟩ := bind_some h9
 refine zr [1, 3, 4, 12, 13, 14, 22] 2 ZA (rq1 (UO _ _ q10) rqn) (Zb (cn h11 (fun _ h13 => ?_) (fun _ h14 => ?_)))
 refine Za ?_
 cases h13
 refine Zf (Zb (Za (Za ?_)))
 obtain ⟨r4, q15, h16⟩ := bind_some h14
 refine zr [1, 3, 4, 12, 13, 14, 28] 2 ZA (rq1 (Uf _ _ _ q15) rqn) (Zb (cn h16 (fun _ h18 => ?_) (fun _ h19 => ?_)))
 refine Za ?_
 cases h18
 refine Zf (Zb (Za (Za ?_)))
 obtain ⟨r5, q20, h21⟩ := bind_some h19
 refine zr [1, 3, 4, 12, 13, 14, 31] 2 ZA (rq1 (VP _ _ q20) rqn) (Zb (cn h21 (fun _ h23 => ?_) (fun _ h24 => ?_)))
 refine Za ?_
 cases h23
 refine Zf (Zb (Za ?_))
 obtain ⟨c25, h26⟩ := ZP h24
 refine rgc [1, 4, 12, 13, 14, 35, 36, 37] 2 ⟨64, [(1, .ref 0 0), (4, .ref 1 0), u1, (13, .int .i64 u2), (14, .int .i64 p1), (35, .sl false 12 (p1.toNat - 0) (fun i => Zd (a0.Zc.getD (0 + i) default))), (36, .int .i64 ((p1.toNat - 0 : Nat) : Int)), (37, .int .i64 0)], u3⟩ [decide (0 ≤ p1), decide (p1 ≤ u2)] c25 (Yy (s' := ⟨64, [(1, .ref 0 0), (4, .ref 1 0), u1, (13, .int .i64 u2), (14, .int .i64 p1), u4, (36, .int .i64 ((p1.toNat - 0 : Nat) : Int)), (37, .int .i64 0)], u3⟩) (Y5 (.cons Sub.rfl (.cons Sub.rfl (.cons Sub.rfl (.cons Sub.rfl (.cons Sub.rfl (.cons (J2 (ZaM _ _ _ (ZbQ (c25 _ (List.mem_cons_of_mem _ List.mem_cons_self)))) (ZaL _ _ _ _)) (.cons Sub.rfl (.cons Sub.rfl .nil)))))))) (.cons .rfl (.cons .rfl .nil))) (Zt ?_))
 obtain ⟨y11, q42, h43⟩ := bind_some h26
 refine zl (fun (p6 : Int) => ⟨64, [(1, .ref 0 0), (4, .ref 1 0), u1, (13, .int .i64 u2), (14, .int .i64 p1), u4, (36, .int .i64 ((p1.toNat - 0 : Nat) : Int)), (37, .int .i64 p6)], u3⟩) (fun z => OutE 2 (fun z => ⟨64, [(1, .ref 0 0), u1, (13, .int .i64 u2), (14, .int .i64 p1)], [.box u5]⟩) z) q42 ?_ ?_
 intro p6 y7 h27
 unfold M.Xs at h27
 refine Za (zg [1, 4, 12, 13, 14, 35, 36, 37, 38] 2 (Zb (Za (cn h27 (fun _ h29 => ?_) (fun _ h30 => ?_)))))
 refine Zf (Zb (Za (Zt (Za ?_))))
 obtain ⟨c31, h32⟩ := ZP h29
 refine zc [1, 4, 6, 12, 13, 14, 35, 36, 37] 3 c31 (Zb (Za ?_))
 obtain ⟨r8, q33, h34⟩ := bind_some h32
 obtain ⟨r9, q35, h36⟩ := bind_some h34
 obtain ⟨r10, q37, h38⟩ := bind_some h36
 refine zr [1, 4, 12, 13, 14, 35, 36, 37, 61] 2 ZA (rq2 (fun hg => J3 _ _ _ (Qj q33 hg)) (rq2 (fun hg => J3 _ _ _ (Qj q35 hg)) (rq2 (fun hg => U9 _ _ _ (Qj q37 hg)) rqn))) (Zb (cn h38 (fun _ h40 => ?_) (fun _ h41 => ?_)))
 refine Za ?_
 cases h40
 exact Zf (YQ (Zb (zg [1, 4, 12, 13, 14, 35, 36, 37] 2 (rn h41))))
 exact Xi (X8 (re h30 ⟨rfl, kc⟩))
 intro e44 s45 o46
 obtain ⟨rfl, l47⟩ := o46
 exact JE (YQ (Yy (s' := ⟨64, [(1, .ref 0 0), u1, (13, .int .i64 u2), (14, .int .i64 p1)], [.box u5]⟩) (l47) (zg [1, 12, 13, 14] 1 (rn h43))))
 exact Xi (X8 (re h7 ⟨rfl, kc⟩))
 intro e50 s51 o52
 exact zi o52 (Za (zg [2] 0 (Zb (Zs (er1 h49)))))
theorem Vu (a0 : Zg) (r : Int) (h : M.Xr a0 = some r) : Fn Tryz.prog 76 [.agg (Zv a0)] (.pure (.int .i64 r)) := by
 unfold M.Xr at h
 refine ZR Tryz.func76 rfl (by kernel_rfl) (Za (zg [1] 1 (Zb (Za (Za (zg [1, 11] 1 (Zb (cn h (fun _ h2 => ?_) (fun _ h3 => ?_)))))))))
 refine Za ?_
 cases h2
 refine Zf (Zb (Za (Za (zg [1, 13, 14, 15] 1 (Zb (Zt ?_))))))
 obtain ⟨y3, q8, h9⟩ := bind_some h3
 refine zl (fun (p1 : Int) => ⟨67, [(1, .ref 0 0), (13, sL 2 Zi a0.JQ), (14, .int .i64 (a0.JQ.length : Int)), (15, .int .i64 p1)], [.box (Zv a0)]⟩) (fun z => OutE 0 (fun z => ⟨67, [], []⟩) z) q8 ?_ ?_
 intro p1 y2 h4
 unfold M.Xq at h4
 refine Za (zg [1, 13, 14, 15, 16] 1 (Zb (Za (cn h4 (fun _ h6 => ?_) (fun _ h7 => ?_)))))
 refine Zf (Zb (Za (Zt (Za ?_))))
 cases h6
 exact Xi (X8 (re h7 ⟨rfl, kc⟩))
 intro e10 s11 o12
 exact zi o12 (Za (zg [2] 0 (Zb (Zs (er1 h9)))))
theorem VQ (a0 : Zg) (r : Int) (h : M.XL a0 = some r) : Fn Tryz.prog 77 [.agg (Zv a0)] (.pure (.int .i64 r)) := by
 unfold M.XL at h
 refine ZR Tryz.func77 rfl (by kernel_rfl) (Za (zg [1] 1 (Zb (Za (Za (zg [1, 11] 1 (Zb (cn h (fun _ h2 => ?_) (fun _ h3 => ?_)))))))))
 refine Za ?_
 cases h2
 refine Zf (Zb (Za (Za (zg [1, 13, 14, 15] 1 (Zb (Zt ?_))))))
 obtain ⟨y3, q8, h9⟩ := bind_some h3
 refine zl (fun (p1 : Int) => ⟨56, [(1, .ref 0 0), (13, sL 2 Zx a0.Jp), (14, .int .i64 (a0.Jp.length : Int)), (15, .int .i64 p1)], [.box (Zv a0)]⟩) (fun z => OutE 0 (fun z => ⟨56, [], []⟩) z) q8 ?_ ?_
 intro p1 y2 h4
 unfold M.XE at h4
 refine Za (zg [1, 13, 14, 15, 16] 1 (Zb (Za (cn h4 (fun _ h6 => ?_) (fun _ h7 => ?_)))))
 refine Zf (Zb (Za (Zt (Za ?_))))
 cases h6
 exact Xi (X8 (re h7 ⟨rfl, kc⟩))
 intro e10 s11 o12
 exact zi o12 (Za (zg [2] 0 (Zb (Zs (er1 h9)))))
theorem Ug (a0 : Zg) (r : Int) (h : M.YA a0 = some r) : Fn Tryz.prog 78 [.agg (Zv a0)] (.pure (.int .i64 r)) := by
 unfold M.YA at h
 refine ZR Tryz.func78 rfl (by kernel_rfl) (Za (zg [1] 1 (Zb (Za (Za (zg [1, 11] 1 (Zb (cn h (fun _ h2 => ?_) (fun _ h3 => ?_)))))))))
 refine Za ?_
 cases h2
 refine Zf (Zb (Za (Za (zg [1, 13, 14, 15] 1 (Zb (Zt ?_))))))
 obtain ⟨y3, q8, h9⟩ := bind_some h3
 refine zl (fun (p1 : Int) => ⟨46, [(1, .ref 0 0), (13, sL 2 XG a0.Qw), (14, .int .i64 (a0.Qw.length : Int)), (15, .int .i64 p1)], [.box (Zv a0)]⟩) (fun z => OutE 0 (fun z => ⟨46, [], []⟩) z) q8 ?_ ?_
 intro p1 y2 h4
 unfold M.X9 at h4
 refine Za (zg [1, 13, 14, 15, 16] 1 (Zb (Za (cn h4 (fun _ h6 => ?_) (fun _ h7 => ?_)))))
 refine Zf (Zb (Za (Zt (Za ?_))))
 cases h6
 exact Xi (X8 (re h7 ⟨rfl, kc⟩))
 intro e10 s11 o12
 exact zi o12 (Za (zg [2] 0 (Zb (Zs (er1 h9)))))
theorem UQ (a0 : Zg) (r : Int) (h : M.YO a0 = some r) : Fn Tryz.prog 79 [.agg (Zv a0)] (.pure (.int .i64 r)) := by
 unfold M.YO at h
 refine ZR Tryz.func79 rfl (by kernel_rfl) (Za (zg [1] 1 (Zb (Za (Za (zg [1, 8] 1 (Zb (cn h (fun _ h2 => ?_) (fun _ h3 => ?_)))))))))
 refine Za ?_
 cases h2
 refine Zf (Zb (Za (Za (zg [1, 10, 11, 12] 1 (Zb (Zt ?_))))))
 obtain ⟨y3, q8, h9⟩ := bind_some h3
 refine zl (fun (p1 : Int) => ⟨30, [(1, .ref 0 0), (10, sL 9 ZB a0.Jd), (11, .int .i64 (a0.Jd.length : Int)), (12, .int .i64 p1)], [.box (Zv a0)]⟩) (fun z => OutE 0 (fun z => ⟨30, [], []⟩) z) q8 ?_ ?_
 intro p1 y2 h4
 unfold M.Yr at h4
 refine Za (zg [1, 10, 11, 12, 13] 1 (Zb (Za (cn h4 (fun _ h6 => ?_) (fun _ h7 => ?_)))))
 refine Zf (Zb (Za (Zt (Za ?_))))
 cases h6
 exact Xi (X8 (re h7 ⟨rfl, kc⟩))
 intro e10 s11 o12
 exact zi o12 (Za (zg [2] 0 (Zb (Zs (er1 h9)))))
theorem UR (a0 : Zg) (a1 : ByteArray) (r : Int) (h : M.QF a0 a1 = some r) : Fn Tryz.prog 139 [.agg (Zv a0), .str a1] (.pure (.int .i64 r)) := by
 unfold M.QF at h
 refine ZR Tryz.func139 rfl (by kernel_rfl) (Za ?_)
 cases h
theorem V7 (a0 : Zg) (r : Int) (h : M.XZ a0 = some r) : Fn Tryz.prog 80 [.agg (Zv a0)] (.pure (.int .i64 r)) := by
 unfold M.XZ at h
 refine ZR Tryz.func80 rfl (by kernel_rfl) (Za (zg [1] 1 (Zb (Za (Za (zg [1, 6, 7, 8] 1 (Zb (Zt ?_))))))))
 obtain ⟨y5, q14, h15⟩ := bind_some h
 refine zl (fun (p1 : Int) => ⟨35, [(1, .ref 0 0), (6, sL 12 Zd a0.Zc), (7, .int .i64 (a0.Zc.length : Int)), (8, .int .i64 p1)], [.box (Zv a0)]⟩) (fun z => OutE 0 (fun z => ⟨35, [], []⟩) z) q14 ?_ ?_
 intro p1 y2 h1
 unfold M.XQ at h1
 refine Za (zg [1, 6, 7, 8, 9] 1 (Zb (Za (cn h1 (fun _ h3 => ?_) (fun _ h4 => ?_)))))
 refine Zf (Zb (Za (Zt (Za ?_))))
 obtain ⟨c5, h6⟩ := ZP h3
 refine zc [1, 4, 6, 7, 8] 2 c5 (Zb (Za ?_))
 obtain ⟨r3, q7, h8⟩ := bind_some h6
 obtain ⟨r4, q9, h10⟩ := bind_some h8
 refine zr [1, 6, 7, 8, 33] 1 ZA (rq2 (fun hg => UR _ _ _ (Qj q7 hg)) (rq2 (fun hg => UR _ _ _ (Qj q9 hg)) rqn)) (Zb (cn h10 (fun _ h12 => ?_) (fun _ h13 => ?_)))
 refine Za ?_
 cases h12
 exact Zf (YQ (Zb (zg [1, 6, 7, 8] 1 (rn h13))))
 exact Xi (X8 (re h4 ⟨rfl, kc⟩))
 intro e16 s17 o18
 exact zi o18 (Za (zg [2] 0 (Zb (Zs (er1 h15)))))
theorem V8 (a0 : Zg) (r : Int) (h : M.X0 a0 = some r) : Fn Tryz.prog 81 [.agg (Zv a0)] (.pure (.int .i64 r)) := by
 unfold M.X0 at h
 refine ZR Tryz.func81 rfl (by kernel_rfl) (Za (zg [1] 1 (Zb (Za (Za (zg [1, 11] 1 (Zb (cn h (fun _ h2 => ?_) (fun _ h3 => ?_)))))))))
 refine Za ?_
 cases h2
 refine Zf (Zb (Za (Za (zg [1, 13, 14, 15] 1 (Zb (Zt ?_))))))
 obtain ⟨y3, q8, h9⟩ := bind_some h3
 refine zl (fun (p1 : Int) => ⟨63, [(1, .ref 0 0), (13, sL 7 ZF a0.Xl), (14, .int .i64 (a0.Xl.length : Int)), (15, .int .i64 p1)], [.box (Zv a0)]⟩) (fun z => OutE 0 (fun z => ⟨63, [], []⟩) z) q8 ?_ ?_
 intro p1 y2 h4
 unfold M.XR at h4
 refine Za (zg [1, 13, 14, 15, 16] 1 (Zb (Za (cn h4 (fun _ h6 => ?_) (fun _ h7 => ?_)))))
 refine Zf (Zb (Za (Zt (Za ?_))))
 cases h6
 exact Xi (X8 (re h7 ⟨rfl, kc⟩))
 intro e10 s11 o12
 exact zi o12 (Za (zg [2] 0 (Zb (Zs (er1 h9)))))
theorem VR (a0 : Zg) (r : Int) (h : M.XM a0 = some r) : Fn Tryz.prog 82 [.agg (Zv a0)] (.pure (.int .i64 r)) := by
 unfold M.XM at h
 refine ZR Tryz.func82 rfl (by kernel_rfl) (Za (zg [1] 1 (Zb (Za (zg [1, 3] 2 (Zb (Za (Za (zg [1, 3, 12] 2 (Zb (cn h (fun _ h2 => ?_) (fun _ h3 => ?_))))))))))))
 refine Za (Za (zg [27] 0 (Zb (cn h2 (fun _ h5 => ?_) (fun _ h6 => ?_)))))
 refine Za ?_
 cases h5
 exact Zf (Zb (Za (zg [2] 0 (Zb (Zs (Xk (er1 h6)))))))
 refine Zf (Zb (Za (Za ?_)))
 cases h3
theorem J4 (a0 : Zg) (r : Int) (h : M.Xg a0 = some r) : Fn Tryz.prog 83 [.agg (Zv a0)] (.pure (.int .i64 r)) := by
 unfold M.Xg at h
 refine ZR Tryz.func83 rfl (by kernel_rfl) (Za (zg [1] 1 (Zb (Za (zg [1, 3] 2 (Zb (Za (Za (zg [1, 3, 8] 2 (Zb (cn h (fun _ h2 => ?_) (fun _ h3 => ?_))))))))))))
 refine Za (Za (zg [27] 0 (Zb (cn h2 (fun _ h5 => ?_) (fun _ h6 => ?_)))))
 refine Za ?_
 cases h5
 exact Zf (Zb (Za (zg [2] 0 (Zb (Zs (Xk (er1 h6)))))))
 refine Zf (Zb (Za (Za ?_)))
 cases h3
theorem VE (a0 : Zg) (r : Int) (h : M.XD a0 = some r) : Fn Tryz.prog 84 [.agg (Zv a0)] (.pure (.int .i64 r)) := by
 unfold M.XD at h
 refine ZR Tryz.func84 rfl (by kernel_rfl) (Za (zg [1] 1 (Zb (Za (zg [1, 3] 2 (Zb (Za (Za (zg [1, 3, 10] 2 (Zb (cn h (fun _ h2 => ?_) (fun _ h3 => ?_))))))))))))
 refine Za (Za (zg [48] 0 (Zb (cn h2 (fun _ h5 => ?_) (fun _ h6 => ?_)))))
 refine Za ?_
 cases h5
 exact Zf (Zb (Za (zg [2] 0 (Zb (Zs (Xk (er1 h6)))))))
 refine Zf (Zb (Za (Za ?_)))
 cases h3
theorem WG (a0 : Zg) (r : Int) (h : M.X7 a0 = some r) : Fn Tryz.prog 58 [.agg (Zv a0)] (.pure (.int .i64 r)) := by
 unfold M.X7 at h
 refine ZR Tryz.func58 rfl (by kernel_rfl) (Za (zg [1] 1 (Zb (Za (Za ?_)))))
 obtain ⟨r1, q1, h2⟩ := bind_some h
 refine zr [1, 10] 1 ZA (rq1 (UO _ _ q1) rqn) (Zb (cn h2 (fun _ h4 => ?_) (fun _ h5 => ?_)))
 refine Za ?_
 cases h4
 refine Zf (Zb (Za (Za ?_)))
 obtain ⟨r2, q6, h7⟩ := bind_some h5
 refine zr [1, 14] 1 ZA (rq1 (Jt _ _ _ _ q6) rqn) (Zb (cn h7 (fun _ h9 => ?_) (fun _ h10 => ?_)))
 refine Za ?_
 cases h9
 refine Zf (Zb (Za (zg [1, 3] 1 (Zb (Za (Za (zg [1, 16, 17, 18] 1 (Zb (Zt (Zag (QB (Za (zg [1, 16, 17, 18, 19] 1 (Zb (Za (cnd true (fun _ => (Zf (Zb (Za (Zt (Za ?_)))))) (fun b11 => Bool.noConfusion b11)))))))))))))))))
 obtain ⟨c12, h13⟩ := ZP h10
 refine zc [1, 5, 16, 17, 18] 1 c12 (Zb (Za ?_))
 obtain ⟨r3, q14, h15⟩ := bind_some h13
 refine zr [1, 6, 16, 17, 18] 1 ZA (rq1 (VD _ _ q14) rqn) (Zb (Za (zg [1, 6, 16, 17, 18, 26] 1 (Zb (cn h15 (fun _ h17 => ?_) (fun _ h18 => ?_))))))
 refine Za ?_
 cases h17
 refine Zf (YQ (Zb (zg [1, 16, 17, 18] 1 (JV (QB (Za (zg [1, 16, 17, 18, 19] 1 (Zb (Za (cnd true (fun _ => (Zf (Zb (Za (Zt (Za ?_)))))) (fun b19 => Bool.noConfusion b19)))))))))))
 obtain ⟨c20, h21⟩ := ZP h18
 refine zc [1, 5, 16, 17, 18] 1 c20 (Zb (Za ?_))
 obtain ⟨r4, q22, h23⟩ := bind_some h21
 refine zr [1, 6, 16, 17, 18] 1 ZA (rq1 (Vu _ _ q22) rqn) (Zb (Za (zg [1, 6, 16, 17, 18, 26] 1 (Zb (cn h23 (fun _ h25 => ?_) (fun _ h26 => ?_))))))
 refine Za ?_
 cases h25
 refine Zf (YQ (Zb (zg [1, 16, 17, 18] 1 (JV (QB (Za (zg [1, 16, 17, 18, 19] 1 (Zb (Za (cnd true (fun _ => (Zf (Zb (Za (Zt (Za ?_)))))) (fun b27 => Bool.noConfusion b27)))))))))))
 obtain ⟨c28, h29⟩ := ZP h26
 refine zc [1, 5, 16, 17, 18] 1 c28 (Zb (Za ?_))
 obtain ⟨r5, q30, h31⟩ := bind_some h29
 refine zr [1, 6, 16, 17, 18] 1 ZA (rq1 (VQ _ _ q30) rqn) (Zb (Za (zg [1, 6, 16, 17, 18, 26] 1 (Zb (cn h31 (fun _ h33 => ?_) (fun _ h34 => ?_))))))
 refine Za ?_
 cases h33
 refine Zf (YQ (Zb (zg [1, 16, 17, 18] 1 (JV (QB (Za (zg [1, 16, 17, 18, 19] 1 (Zb (Za (cnd true (fun _ => (Zf (Zb (Za (Zt (Za ?_)))))) (fun b35 => Bool.noConfusion b35)))))))))))
 obtain ⟨c36, h37⟩ := ZP h34
 refine zc [1, 5, 16, 17, 18] 1 c36 (Zb (Za ?_))
 obtain ⟨r6, q38, h39⟩ := bind_some h37
 refine zr [1, 6, 16, 17, 18] 1 ZA (rq1 (Ug _ _ q38) rqn) (Zb (Za (zg [1, 6, 16, 17, 18, 26] 1 (Zb (cn h39 (fun _ h41 => ?_) (fun _ h42 => ?_))))))
 refine Za ?_
 cases h41
 refine Zf (YQ (Zb (zg [1, 16, 17, 18] 1 (JV (QB (Za (zg [1, 16, 17, 18, 19] 1 (Zb (Za (cnd true (fun _ => (Zf (Zb (Za (Zt (Za ?_)))))) (fun b43 => Bool.noConfusion b43)))))))))))
 obtain ⟨c44, h45⟩ := ZP h42
 refine zc [1, 5, 16, 17, 18] 1 c44 (Zb (Za ?_))
 obtain ⟨r7, q46, h47⟩ := bind_some h45
 refine zr [1, 6, 16, 17, 18] 1 ZA (rq1 (UQ _ _ q46) rqn) (Zb (Za (zg [1, 6, 16, 17, 18, 26] 1 (Zb (cn h47 (fun _ h49 => ?_) (fun _ h50 => ?_))))))
 refine Za ?_
 cases h49
 refine Zf (YQ (Zb (zg [1, 16, 17, 18] 1 (JV (QB (Za (zg [1, 16, 17, 18, 19] 1 (Zb (Za (cnd true (fun _ => (Zf (Zb (Za (Zt (Za ?_)))))) (fun b51 => Bool.noConfusion b51)))))))))))
 obtain ⟨c52, h53⟩ := ZP h50
 refine zc [1, 5, 16, 17, 18] 1 c52 (Zb (Za ?_))
 obtain ⟨r8, q54, h55⟩ := bind_some h53
 refine zr [1, 6, 16, 17, 18] 1 ZA (rq1 (V7 _ _ q54) rqn) (Zb (Za (zg [1, 6, 16, 17, 18, 26] 1 (Zb (cn h55 (fun _ h57 => ?_) (fun _ h58 => ?_))))))
 refine Za ?_
 cases h57
 refine Zf (YQ (Zb (zg [1, 16, 17, 18] 1 (JV (QB (Za (zg [1, 16, 17, 18, 19] 1 (Zb (Za (cnd true (fun _ => (Zf (Zb (Za (Zt (Za ?_)))))) (fun b59 => Bool.noConfusion b59)))))))))))
 obtain ⟨c60, h61⟩ := ZP h58
 refine zc [1, 5, 16, 17, 18] 1 c60 (Zb (Za ?_))
 obtain ⟨r9, q62, h63⟩ := bind_some h61
 refine zr [1, 6, 16, 17, 18] 1 ZA (rq1 (V8 _ _ q62) rqn) (Zb (Za (zg [1, 6, 16, 17, 18, 26] 1 (Zb (cn h63 (fun _ h65 => ?_) (fun _ h66 => ?_))))))
 refine Za ?_
 cases h65
 refine Zf (YQ (Zb (zg [1, 16, 17, 18] 1 (JV (QB (Za (zg [1, 16, 17, 18, 19] 1 (Zb (Za (cnd true (fun _ => (Zf (Zb (Za (Zt (Za ?_)))))) (fun b67 => Bool.noConfusion b67)))))))))))
 obtain ⟨c68, h69⟩ := ZP h66
 refine zc [1, 5, 16, 17, 18] 1 c68 (Zb (Za ?_))
 obtain ⟨r10, q70, h71⟩ := bind_some h69
 refine zr [1, 6, 16, 17, 18] 1 ZA (rq1 (VR _ _ q70) rqn) (Zb (Za (zg [1, 6, 16, 17, 18, 26] 1 (Zb (cn h71 (fun _ h73 => ?_) (fun _ h74 => ?_))))))
 refine Za ?_
 cases h73
 refine Zf (YQ (Zb (zg [1, 16, 17, 18] 1 (JV (QB (Za (zg [1, 16, 17, 18, 19] 1 (Zb (Za (cnd true (fun _ => (Zf (Zb (Za (Zt (Za ?_)))))) (fun b75 => Bool.noConfusion b75)))))))))))
 obtain ⟨c76, h77⟩ := ZP h74
 refine zc [1, 5, 16, 17, 18] 1 c76 (Zb (Za ?_))
 obtain ⟨r11, q78, h79⟩ := bind_some h77
 refine zr [1, 6, 16, 17, 18] 1 ZA (rq1 (J4 _ _ q78) rqn) (Zb (Za (zg [1, 6, 16, 17, 18, 26] 1 (Zb (cn h79 (fun _ h81 => ?_) (fun _ h82 => ?_))))))
 refine Za ?_
 cases h81
 refine Zf (YQ (Zb (zg [1, 16, 17, 18] 1 (JV (QB (Za (zg [1, 16, 17, 18, 19] 1 (Zb (Za (cnd true (fun _ => (Zf (Zb (Za (Zt (Za ?_)))))) (fun b83 => Bool.noConfusion b83)))))))))))
 obtain ⟨c84, h85⟩ := ZP h82
 refine zc [1, 5, 16, 17, 18] 1 c84 (Zb (Za ?_))
 obtain ⟨r12, q86, h87⟩ := bind_some h85
 refine zr [1, 6, 16, 17, 18] 1 ZA (rq1 (VE _ _ q86) rqn) (Zb (Za (zg [1, 6, 16, 17, 18, 26] 1 (Zb (cn h87 (fun _ h89 => ?_) (fun _ h90 => ?_))))))
 refine Za ?_
 cases h89
 exact Zf (YQ (Zb (zg [1, 16, 17, 18] 1 (JV (QB (Za (zg [1, 16, 17, 18, 19] 1 (Zb (Za (cnd false (fun b91 => Bool.noConfusion b91) (fun _ => (Xi (X8 (ZcH (JE (Zb (Za (zg [2] 0 (Zb (Zs (er1 h90)))))))))))))))))))))
theorem Uh (a0 : Zk) (b0 : Int) (r : Bool) (h : M.YB a0 b0 = some r) : Fn Tryz.prog 147 [.agg (Zd a0), .pp ((ci .u32) b0)] (.pure (.bool r)) := by
 unfold M.YB at h
 exact ZR Tryz.func147 rfl (by kernel_rfl) (Za (zg [1, 2] 1 (Zb (Za (zg [3] 0 (Zb (Zs (er1 h))))))))
theorem YL (a0 : List Zk) (a1c0 : Int) (r : Int) (h : M.Zq a0 a1c0 = some r) : Fn Tryz.prog 146 [sL 12 Zd a0, .fn 147 [.pp ((ci .u32) a1c0)]] (.pure (.int .i64 r)) := by
 unfold M.Zq at h
 refine ZR Tryz.func146 rfl (by kernel_rfl) (Za (zg [0, 1] 0 (Zb (Za (Za (zg [0, 1, 7, 8] 0 (Zb (Zt ?_))))))))
 obtain ⟨y4, q12, h13⟩ := bind_some h
 refine zl (fun (p1 : Int) => ⟨19, [(0, sL 12 Zd a0), (1, .fn 147 [.pp ((ci .u32) a1c0)]), (7, .int .i64 (a0.length : Int)), (8, .int .i64 p1)], []⟩) (Sum.elim (fun z => OutE 0 (fun z => ⟨19, [], []⟩) z) (fun z => OutR Tryz.prog Tryz.f146 (.int .i64 z))) q12 ?_ ?_
 intro p1 y2 h1
 unfold M.Zu at h1
 refine Za (zg [0, 1, 7, 8, 9] 0 (Zb (Za (cn h1 (fun _ h3 => ?_) (fun _ h4 => ?_)))))
 refine Zf (Zb (Za (Zt (Za (zg [0, 1, 5, 7, 8] 0 (Zb (Za ?_)))))))
 obtain ⟨r3, q5, h6⟩ := bind_some h3
 obtain ⟨c7, h8⟩ := ZP h6
 refine zr [0, 1, 5, 7, 8, 16] 0 c7 (rq1 (Uh _ _ _ q5) rqn) (Zb (cn h8 (fun _ h10 => ?_) (fun _ h11 => ?_)))
 exact Za (zg [4] 0 (Zb (Zs (JM (Xk (rr h10 ⟨rfl, er0 _⟩))))))
 exact Zf (YQ (Zb (zg [0, 1, 7, 8] 0 (rn h11))))
 exact Xi (X8 (re h4 ⟨rfl, kq⟩))
 intro e14 s15 o16
 rcases y4 with g5 | y6
 have h17 := VW h13
 exact zi o16 (Za (zg [4] 0 (Zb (Zs (er1 h17)))))
 have h18 := VX h13
 obtain ⟨rfl, n20⟩ := o16
 refine JM (Xk ?_)
 obtain rfl := Option.some.inj h18
 exact n20
theorem Ga (a0 : Zg) (a1 : Int) (r : Int) (h : M.YX a0 a1 = some r) : Fn Tryz.prog 87 [.agg (Zv a0), .int .u32 a1] (.pure (.int .i64 r)) := by
 unfold M.YX at h
 refine ZR Tryz.func87 rfl (by kernel_rfl) (Za (zg [2, 3] 2 (Zb (Za ?_))))
 obtain ⟨r1, q1, h2⟩ := bind_some h
 exact zr [4] 0 ZA (rq1 (YL _ _ _ q1) rqn) (Zb (Zs (er1 h2)))
theorem VS (a0 : Zk) (b0 : Zg) (r : Bool) (h : M.XN a0 b0 = some r) : Fn Tryz.prog 86 [.agg (Zd a0), .pp (Zv b0)] (.pure (.bool r)) := by
 unfold M.XN at h
 refine ZR Tryz.func86 rfl (by kernel_rfl) (Za (zg [1, 2] 1 (Zb (Za ?_))))
 obtain ⟨r1, q1, h2⟩ := bind_some h
 exact zr [3] 0 ZA (rq2 (fun hg => Ga _ _ _ (Qj q1 hg)) rqn) (Zb (Zs (er1 h2)))
theorem Ys (a0 : List Zk) (a1c0 : Zg) (r : Int) (h : M.Zl a0 a1c0 = some r) : Fn Tryz.prog 146 [sL 12 Zd a0, .fn 86 [.pp (Zv a1c0)]] (.pure (.int .i64 r)) := by
 unfold M.Zl at h
 refine ZR Tryz.func146 rfl (by kernel_rfl) (Za (zg [0, 1] 0 (Zb (Za (Za (zg [0, 1, 7, 8] 0 (Zb (Zt ?_))))))))
 obtain ⟨y4, q12, h13⟩ := bind_some h
 refine zl (fun (p1 : Int) => ⟨19, [(0, sL 12 Zd a0), (1, .fn 86 [.pp (Zv a1c0)]), (7, .int .i64 (a0.length : Int)), (8, .int .i64 p1)], []⟩) (Sum.elim (fun z => OutE 0 (fun z => ⟨19, [], []⟩) z) (fun z => OutR Tryz.prog Tryz.f146 (.int .i64 z))) q12 ?_ ?_
 intro p1 y2 h1
 unfold M.Zo at h1
 refine Za (zg [0, 1, 7, 8, 9] 0 (Zb (Za (cn h1 (fun _ h3 => ?_) (fun _ h4 => ?_)))))
 refine Zf (Zb (Za (Zt (Za (zg [0, 1, 5, 7, 8] 0 (Zb (Za ?_)))))))
 obtain ⟨r3, q5, h6⟩ := bind_some h3
 obtain ⟨c7, h8⟩ := ZP h6
 refine zr [0, 1, 5, 7, 8, 16] 0 c7 (rq1 (VS _ _ _ q5) rqn) (Zb (cn h8 (fun _ h10 => ?_) (fun _ h11 => ?_)))
 exact Za (zg [4] 0 (Zb (Zs (JM (Xk (rr h10 ⟨rfl, er0 _⟩))))))
 exact Zf (YQ (Zb (zg [0, 1, 7, 8] 0 (rn h11))))
 exact Xi (X8 (re h4 ⟨rfl, kq⟩))
 intro e14 s15 o16
 rcases y4 with g5 | y6
 have h17 := VW h13
 exact zi o16 (Za (zg [4] 0 (Zb (Zs (er1 h17)))))
 have h18 := VX h13
 obtain ⟨rfl, n20⟩ := o16
 refine JM (Xk ?_)
 obtain rfl := Option.some.inj h18
 exact n20
theorem Yj (a0 : List Zk) (a1c0 : Zg) (r : Bool) (h : M.Zh a0 a1c0 = some r) : Fn Tryz.prog 85 [sL 12 Zd a0, .fn 86 [.pp (Zv a1c0)]] (.pure (.bool r)) := by
 unfold M.Zh at h
 refine ZR Tryz.func85 rfl (by kernel_rfl) (Za (zg [0, 1] 0 (Zb (Za ?_))))
 obtain ⟨r1, q1, h2⟩ := bind_some h
 exact zr [4] 0 ZA (rq1 (Ys _ _ _ q1) rqn) (Zb (Zs (er1 h2)))
theorem V9 (a0 : Zg) (a1 : Zg) (r : Bool) (h : M.X1 a0 a1 = some r) : Fn Tryz.prog 59 [.agg (Zv a0), .agg (Zv a1)] (.pure (.bool r)) := by
 unfold M.X1 at h
 refine ZR Tryz.func59 rfl (by kernel_rfl) (Za (zg [2, 3] 2 (Zb (Za ?_))))
 obtain ⟨r1, q1, h2⟩ := bind_some h
 exact zr [4] 0 ZA (rq1 (Yj _ _ _ q1) rqn) (Zb (Zs (er1 h2)))
theorem Kf (a0 : Z7) (r : Int) (h : M.Qn a0 = some r) : Fn Tryz.prog 37 [.agg (Xy a0)] (.pure (.int .i64 r)) := by
 let u1 : Nat × D := (13, sL 25 Zv a0.Ze)
 let u3 := (a0.Ze.length : Int)
 let u5 := Xy a0
 unfold M.Qn at h
 refine ZR Tryz.func37 rfl (by kernel_rfl) (Za (zg [1] 1 (Zb (Za (Za (zg [1, 11] 1 (Zb (cn h (fun _ h2 => ?_) (fun _ h3 => ?_)))))))))
 refine Za ?_
 cases h2
 refine Zf (Zb (Za (Za (zg [1, 13, 14, 15] 1 (Zb (Zt ?_))))))
 obtain ⟨y8, q34, h35⟩ := bind_some h3
 refine zl (fun (p1 : Int) => ⟨46, [(1, .ref 0 0), u1, (14, .int .i64 u3), (15, .int .i64 p1)], [.box u5]⟩) (fun z => OutE 0 (fun z => ⟨46, [], []⟩) z) q34 ?_ ?_
 intro p1 y2 h4
 let u2 : List Ob := [.box u5, .box (Zv (a0.Ze.getD p1.toNat default))]
 let u4 : Nat × D := (28, sL 25 Zv ((a0.Ze.drop 0).take (p1.toNat - 0)))
 unfold M.Y2 at h4
 refine Za (zg [1, 13, 14, 15, 16] 1 (Zb (Za (cn h4 (fun _ h6 => ?_) (fun _ h7 => ?_)))))
 refine Zf (Zb (Za (Zt (Za ?_))))
 obtain ⟨c8, h9⟩ := ZP h6
 refine zc [1, 3, 4, 13, 14, 15] 2 c8 (Zb (Za (Za ?_)))
 obtain ⟨r3, q10, h11⟩ := bind_some h9
 refine zr [1, 3, 4, 5, 13, 14, 15] 2 ZA (rq1 (WG _ _ q10) rqn) (Zb (Za (zg [1, 3, 4, 5, 13, 14, 15, 23] 2 (Zb (cn h11 (fun _ h13 => ?_) (fun _ h14 => ?_))))))
 refine Za ?_
 cases h13
 refine Zf (Zb (Za ?_))
 obtain ⟨c15, h16⟩ := ZP h14
 refine rgc [1, 4, 13, 14, 15, 28, 29, 30] 2 ⟨46, [(1, .ref 0 0), (4, .ref 1 0), u1, (14, .int .i64 u3), (15, .int .i64 p1), (28, .sl false 25 (p1.toNat - 0) (fun i => Zv (a0.Ze.getD (0 + i) default))), (29, .int .i64 ((p1.toNat - 0 : Nat) : Int)), (30, .int .i64 0)], u2⟩ [decide (0 ≤ p1), decide (p1 ≤ u3)] c15 (Yy (s' := ⟨46, [(1, .ref 0 0), (4, .ref 1 0), u1, (14, .int .i64 u3), (15, .int .i64 p1), u4, (29, .int .i64 ((p1.toNat - 0 : Nat) : Int)), (30, .int .i64 0)], u2⟩) (Y5 (.cons Sub.rfl (.cons Sub.rfl (.cons Sub.rfl (.cons Sub.rfl (.cons Sub.rfl (.cons (J2 (ZaM _ _ _ (ZbQ (c15 _ (List.mem_cons_of_mem _ List.mem_cons_self)))) (ZaL _ _ _ _)) (.cons Sub.rfl (.cons Sub.rfl .nil)))))))) (.cons .rfl (.cons .rfl .nil))) (Zt ?_))
 obtain ⟨y7, q28, h29⟩ := bind_some h16
 refine zl (fun (p4 : Int) => ⟨46, [(1, .ref 0 0), (4, .ref 1 0), u1, (14, .int .i64 u3), (15, .int .i64 p1), u4, (29, .int .i64 ((p1.toNat - 0 : Nat) : Int)), (30, .int .i64 p4)], u2⟩) (fun z => OutE 2 (fun z => ⟨46, [(1, .ref 0 0), u1, (14, .int .i64 u3), (15, .int .i64 p1)], [.box u5]⟩) z) q28 ?_ ?_
 intro p4 y5 h17
 unfold M.Y1 at h17
 refine Za (zg [1, 4, 13, 14, 15, 28, 29, 30, 31] 2 (Zb (Za (cn h17 (fun _ h19 => ?_) (fun _ h20 => ?_)))))
 refine Zf (Zb (Za (Zt (Za ?_))))
 obtain ⟨c21, h22⟩ := ZP h19
 refine zc [1, 4, 7, 13, 14, 15, 28, 29, 30] 3 c21 (Zb (Za ?_))
 obtain ⟨r6, q23, h24⟩ := bind_some h22
 refine zr [1, 4, 13, 14, 15, 28, 29, 30, 43] 2 ZA (rq2 (fun hg => V9 _ _ _ (Qj q23 hg)) rqn) (Zb (cn h24 (fun _ h26 => ?_) (fun _ h27 => ?_)))
 refine Za ?_
 cases h26
 exact Zf (YQ (Zb (zg [1, 4, 13, 14, 15, 28, 29, 30] 2 (rn h27))))
 exact Xi (X8 (re h20 ⟨rfl, kc⟩))
 intro e30 s31 o32
 obtain ⟨rfl, l33⟩ := o32
 exact JE (YQ (Yy (s' := ⟨46, [(1, .ref 0 0), u1, (14, .int .i64 u3), (15, .int .i64 p1)], [.box u5]⟩) (l33) (zg [1, 13, 14, 15] 1 (rn h29))))
 exact Xi (X8 (re h7 ⟨rfl, kc⟩))
 intro e36 s37 o38
 exact zi o38 (Za (zg [2] 0 (Zb (Zs (er1 h35)))))
theorem R0 : KeyT Tryz.prog 117 119 3 Zy topoKeyEq := ⟨by kernel_rfl, ⟨_, Tryz.underlying119⟩, ⟨3, by kernel_rfl, fun _ => rfl⟩, fun _ => rfl, fun em y w => by cases em <;> kernel_rfl, fun w => by kernel_rfl, fun x y => by kernel_rfl⟩
theorem Gb (a0 : Z7) (r : List Zp) (h : M.Qa a0 = some r) : Fn Tryz.prog 38 [.agg (Xy a0)] (oL 4 ZM r) := by
 let u1 : Nat × D := (14, sL 25 Zv a0.Ze)
 let u2 := (a0.Ze.length : Int)
 let u3 := Xy a0
 let u4 : Nat × D := (3, .sl true 4 0 (fun _ => []))
 let u5 := List (ZC × Int)
 let u6 : St := ⟨82, [(1, .ref 0 0), u4], [.box u3]⟩
 let u7 := List Zp
 unfold M.Qa at h
 obtain ⟨y, hy, h1⟩ := bind_some h
 obtain rfl := Option.some.inj h1
 refine W6 Tryz.func38 rfl (by kernel_rfl) (Jb ?_)
 refine Za (rg0 [1] 1 ⟨82, [(1, .ref 0 0)], [.box u3]⟩ ?_)
 refine Zb (Za (rg0 [1, 3] 1 u6 ?_))
 refine Zb (Za ?_)
 refine rgo 0 [] [1, 3] 1 u6 [] [] ZA trivial (fun u : Value => ⟨82, (12, .val u) :: [(1, .ref 0 0), u4], [.box u3] ++ [.mp u []]⟩) (Zcc rfl rfl rfl rfl rfl) [] [1, 3, 4] 2 (fun u => ⟨82, [(1, .ref 0 0), u4, (4, .val u)], [.box u3, .mp u []]⟩) (fun _ => []) (fun _ => []) (fun _ => ZA) (fun _ => trivial) (fun u => ?_)
 refine Zb (Za (Za (rg0 [3, 4, 14, 15, 16] 2 ⟨82, [u4, (4, .val u), u1, (15, .int .i64 u2), (16, .int .i64 0)], [.box u3, .mp u []]⟩ ?_)))
 refine Yy (Le.trans (s' := ⟨82, (3, .asl 2 0 0) :: [u4, (4, .val u), u1, (15, .int .i64 u2), (16, .int .i64 0)], [.box u3, .mp u []] ++ [.arr 4 0 (fun _ => [])]⟩) (VZ (wd := 4) (f := fun _ => []) 3 (by kernel_rfl) _ _) (Le.trans (s' := ⟨82, [(3, .asl 2 0 0), (4, .val u), u1, (15, .int .i64 u2), (16, .int .i64 0)], [.box u3, .mp u [], .arr 4 0 (fun _ => [])]⟩) (kp [3, 4, 14, 15, 16]) (Zcf (H := [.box u3, .mp u []]) (wi := 2) (wd := 4) hdDom Xz Zp.XA _))) ?_
 refine Zt ?_
 refine Wn (KA (f := M.YD a0) (S := fun (p : u7 × u5 × Int) (vs : Nat → Value) => ⟨82, [(3, .asl 2 0 p.1.length), (4, .val u), u1, (15, .int .i64 u2), (16, .int .i64 p.2.2)], [.box u3, mpO u Zy p.2.1, rA 4 hdDom p.1 vs, rF 2 Xz Zp.XA p.1 vs]⟩) (O := (fun z => OutL 0 (fun (z : List Zp) (g : (Nat → Value) × u5) => ⟨82, [(3, .asl 2 0 z.length)], [.box u3, mpO u Zy g.2, rA 4 hdDom z g.1, rF 2 Xz Zp.XA z g.1]⟩) z)) ?_ (g := fun _ => nilV) (x := ([], [], 0)) (y := y) (Ju hy)) ?_
 · intro p1 y1 v1 h2
   unfold M.YD at h2
   refine Za (rg0 [3, 4, 14, 15, 16, 17] 4 ⟨82, [(3, .asl 2 0 p1.1.length), (4, .val u), u1, (15, .int .i64 u2), (16, .int .i64 p1.2.2), (17, .bool (decide (p1.2.2 < u2)))], [.box u3, mpO u Zy p1.2.1, rA 4 hdDom p1.1 v1, rF 2 Xz Zp.XA p1.1 v1]⟩ ?_)
   refine Zb (Za ?_)
   refine cnd (decide (p1.2.2 < u2)) (fun b1 => ?_) (fun b1 => ?_)
   · have h3 := Wo b1 h2
     refine Zf (Zb ?_)
     refine Za (Zt (Za ?_))
     obtain ⟨c1, h4⟩ := ZP h3
     refine rgc [3, 4, 5, 6, 14, 15, 16] 5 ⟨82, [(3, .asl 2 0 p1.1.length), (4, .val u), (5, .int .i64 p1.2.2), (6, .ref 4 0), u1, (15, .int .i64 u2), (16, .int .i64 p1.2.2)], [.box u3, mpO u Zy p1.2.1, rA 4 hdDom p1.1 v1, rF 2 Xz Zp.XA p1.1 v1, .box (Zv (a0.Ze.getD p1.2.2.toNat default))]⟩ [decide (0 ≤ p1.2.2), decide (p1.2.2 < u2)] c1 ?_
     refine Zb (Za (rg0 [3, 4, 5, 14, 15, 16, 22, 23, 24] 4 ⟨82, [(3, .asl 2 0 p1.1.length), (4, .val u), (5, .int .i64 p1.2.2), u1, (15, .int .i64 u2), (16, .int .i64 p1.2.2), (22, sL 12 Zd (a0.Ze.getD p1.2.2.toNat default).Zc), (23, .int .i64 ((a0.Ze.getD p1.2.2.toNat default).Zc.length : Int)), (24, .int .i64 0)], [.box u3, mpO u Zy p1.2.1, rA 4 hdDom p1.1 v1, rF 2 Xz Zp.XA p1.1 v1]⟩ ?_))
     refine Zb (Zt ?_)
     obtain ⟨y2, hy2, h5⟩ := bind_some h4
     refine Wn (KA (f := M.YC a0 p1.2.2) (S := fun (p : u7 × u5 × Int) (vs : Nat → Value) => ⟨82, [(3, .asl 2 0 p.1.length), (4, .val u), (5, .int .i64 p1.2.2), u1, (15, .int .i64 u2), (16, .int .i64 p1.2.2), (22, sL 12 Zd (a0.Ze.getD p1.2.2.toNat default).Zc), (23, .int .i64 ((a0.Ze.getD p1.2.2.toNat default).Zc.length : Int)), (24, .int .i64 p.2.2)], [.box u3, mpO u Zy p.2.1, rA 4 hdDom p.1 vs, rF 2 Xz Zp.XA p.1 vs]⟩) (O := (fun z => OutL 2 (fun (z : u7 × u5) (vs : Nat → Value) => ⟨82, [(3, .asl 2 0 z.1.length), (4, .val u), u1, (15, .int .i64 u2), (16, .int .i64 p1.2.2)], [.box u3, mpO u Zy z.2, rA 4 hdDom z.1 vs, rF 2 Xz Zp.XA z.1 vs]⟩) z)) ?_ (g := v1) (x := (p1.1, p1.2.1, 0)) (y := y2) (Ju hy2)) ?_
     · intro p2 y3 v2 h6
       unfold M.YC at h6
       refine Za (rg0 [3, 4, 5, 14, 15, 16, 22, 23, 24, 25] 4 ⟨82, [(3, .asl 2 0 p2.1.length), (4, .val u), (5, .int .i64 p1.2.2), u1, (15, .int .i64 u2), (16, .int .i64 p1.2.2), (22, sL 12 Zd (a0.Ze.getD p1.2.2.toNat default).Zc), (23, .int .i64 ((a0.Ze.getD p1.2.2.toNat default).Zc.length : Int)), (24, .int .i64 p2.2.2), (25, .bool (decide (p2.2.2 < ((a0.Ze.getD p1.2.2.toNat default).Zc.length : Int))))], [.box u3, mpO u Zy p2.2.1, rA 4 hdDom p2.1 v2, rF 2 Xz Zp.XA p2.1 v2]⟩ ?_)
       refine Zb (Za ?_)
       refine cnd (decide (p2.2.2 < ((a0.Ze.getD p1.2.2.toNat default).Zc.length : Int))) (fun b2 => ?_) (fun b2 => ?_)
       · have h7 := Wo b2 h6
         refine Zf (Zb ?_)
         refine Za (Zt (Za ?_))
         obtain ⟨c2, h8⟩ := ZP h7
         refine rgc [3, 4, 5, 7, 8, 14, 15, 16, 22, 23, 24] 5 ⟨82, [(3, .asl 2 0 p2.1.length), (4, .val u), (5, .int .i64 p1.2.2), (7, .int .i64 p2.2.2), (8, .ref 4 0), u1, (15, .int .i64 u2), (16, .int .i64 p1.2.2), (22, sL 12 Zd (a0.Ze.getD p1.2.2.toNat default).Zc), (23, .int .i64 ((a0.Ze.getD p1.2.2.toNat default).Zc.length : Int)), (24, .int .i64 p2.2.2)], [.box u3, mpO u Zy p2.2.1, rA 4 hdDom p2.1 v2, rF 2 Xz Zp.XA p2.1 v2, .box (Zd ((a0.Ze.getD p1.2.2.toNat default).Zc.getD p2.2.2.toNat default))]⟩ [decide (0 ≤ p2.2.2), decide (p2.2.2 < ((a0.Ze.getD p1.2.2.toNat default).Zc.length : Int))] c2 ?_
         refine Zb (Za (Za ?_))
         refine rg0 [3, 4, 5, 7, 8, 14, 15, 16, 22, 23, 24, 35] 5 ⟨82, [(3, .asl 2 0 p2.1.length), (4, .val u), (5, .int .i64 p1.2.2), (7, .int .i64 p2.2.2), (8, .ref 4 0), u1, (15, .int .i64 u2), (16, .int .i64 p1.2.2), (22, sL 12 Zd (a0.Ze.getD p1.2.2.toNat default).Zc), (23, .int .i64 ((a0.Ze.getD p1.2.2.toNat default).Zc.length : Int)), (24, .int .i64 p2.2.2), (35, .bool ((((a0.Ze.getD p1.2.2.toNat default).Zc.getD p2.2.2.toNat default).X2 == 0) || ((a0.Ze.getD p1.2.2.toNat default).Zc.getD p2.2.2.toNat default).UE))], [.box u3, mpO u Zy p2.2.1, rA 4 hdDom p2.1 v2, rF 2 Xz Zp.XA p2.1 v2, .box (Zd ((a0.Ze.getD p1.2.2.toNat default).Zc.getD p2.2.2.toNat default))]⟩ ?_
         refine Zb ?_
         refine cnd ((((a0.Ze.getD p1.2.2.toNat default).Zc.getD p2.2.2.toNat default).X2 == 0) || ((a0.Ze.getD p1.2.2.toNat default).Zc.getD p2.2.2.toNat default).UE) (fun b3 => ?_) (fun b3 => ?_)
         · have h9 := Wo b3 h8
           refine Xi (X8 (JE ?_))
           refine Zb (rg0 [3, 4, 5, 14, 15, 16, 22, 23, 24] 4 ⟨82, [(3, .asl 2 0 p2.1.length), (4, .val u), (5, .int .i64 p1.2.2), u1, (15, .int .i64 u2), (16, .int .i64 p1.2.2), (22, sL 12 Zd (a0.Ze.getD p1.2.2.toNat default).Zc), (23, .int .i64 ((a0.Ze.getD p1.2.2.toNat default).Zc.length : Int)), (24, .int .i64 (wr .i64 (p2.2.2 + 1)))], [.box u3, mpO u Zy p2.2.1, rA 4 hdDom p2.1 v2, rF 2 Xz Zp.XA p2.1 v2]⟩ ?_)
           obtain rfl := Option.some.inj h9
           exact Wq v2 Vi
         · have h9 := UY b3 h8
           refine Zf (Zb (Za ?_))
           obtain ⟨r, hr, h10⟩ := bind_some h9
           refine rgs 8 9 [.pure (.agg (ZY r))] [3, 4, 5, 7, 9, 14, 15, 16, 22, 23, 24] 6 ⟨82, [(3, .asl 2 0 p2.1.length), (4, .val u), (5, .int .i64 p1.2.2), (7, .int .i64 p2.2.2), (9, .ref 5 0), u1, (15, .int .i64 u2), (16, .int .i64 p1.2.2), (22, sL 12 Zd (a0.Ze.getD p1.2.2.toNat default).Zc), (23, .int .i64 ((a0.Ze.getD p1.2.2.toNat default).Zc.length : Int)), (24, .int .i64 p2.2.2)], [.box u3, mpO u Zy p2.2.1, rA 4 hdDom p2.1 v2, rF 2 Xz Zp.XA p2.1 v2, .box (Zd ((a0.Ze.getD p1.2.2.toNat default).Zc.getD p2.2.2.toNat default)), .box (Zy (⟨r, ((a0.Ze.getD p1.2.2.toNat default).Zc.getD p2.2.2.toNat default).Xj⟩ : ZC))]⟩ [] [⟨true, 60, [.int .u32 ((a0.Ze.getD p1.2.2.toNat default).Zc.getD p2.2.2.toNat default).XO, .int .i64 ((a0.Ze.getD p1.2.2.toNat default).Zc.getD p2.2.2.toNat default).X2], .pure (.agg (ZY r))⟩] ZA ⟨fun _ => J3 ((a0.Ze.getD p1.2.2.toNat default).Zc.getD p2.2.2.toNat default).XO ((a0.Ze.getD p1.2.2.toNat default).Zc.getD p2.2.2.toNat default).X2 r hr, trivial⟩ ?_
           refine Zb (Za ?_)
           refine rgo 2 [] [3, 4, 5, 7, 9, 14, 15, 16, 22, 23, 24, 45, 46] 6 ⟨82, [(3, .asl 2 0 p2.1.length), (4, .val u), (5, .int .i64 p1.2.2), (7, .int .i64 p2.2.2), (9, .ref 5 0), u1, (15, .int .i64 u2), (16, .int .i64 p1.2.2), (22, sL 12 Zd (a0.Ze.getD p1.2.2.toNat default).Zc), (23, .int .i64 ((a0.Ze.getD p1.2.2.toNat default).Zc.length : Int)), (24, .int .i64 p2.2.2), (45, .val u), (46, .agg (Zy (⟨r, ((a0.Ze.getD p1.2.2.toNat default).Zc.getD p2.2.2.toNat default).Xj⟩ : ZC)))], [.box u3, mpO u Zy p2.2.1, rA 4 hdDom p2.1 v2, rF 2 Xz Zp.XA p2.1 v2, .box (Zd ((a0.Ze.getD p1.2.2.toNat default).Zc.getD p2.2.2.toNat default)), .box (Zy (⟨r, ((a0.Ze.getD p1.2.2.toNat default).Zc.getD p2.2.2.toNat default).Xj⟩ : ZC))]⟩ [] [] ZA trivial (fun _ : Unit => ⟨82, (47, .tup [.int .i64 (lkM (topoKeyEq (⟨r, ((a0.Ze.getD p1.2.2.toNat default).Zc.getD p2.2.2.toNat default).Xj⟩ : ZC)) p2.2.1).1, .bool (lkM (topoKeyEq (⟨r, ((a0.Ze.getD p1.2.2.toNat default).Zc.getD p2.2.2.toNat default).Xj⟩ : ZC)) p2.2.1).2]) :: [(3, .asl 2 0 p2.1.length), (4, .val u), (5, .int .i64 p1.2.2), (7, .int .i64 p2.2.2), (9, .ref 5 0), u1, (15, .int .i64 u2), (16, .int .i64 p1.2.2), (22, sL 12 Zd (a0.Ze.getD p1.2.2.toNat default).Zc), (23, .int .i64 ((a0.Ze.getD p1.2.2.toNat default).Zc.length : Int)), (24, .int .i64 p2.2.2), (45, .val u), (46, .agg (Zy (⟨r, ((a0.Ze.getD p1.2.2.toNat default).Zc.getD p2.2.2.toNat default).Xj⟩ : ZC)))], [.box u3, mpO u Zy p2.2.1, rA 4 hdDom p2.1 v2, rF 2 Xz Zp.XA p2.1 v2, .box (Zd ((a0.Ze.getD p1.2.2.toNat default).Zc.getD p2.2.2.toNat default)), .box (Zy (⟨r, ((a0.Ze.getD p1.2.2.toNat default).Zc.getD p2.2.2.toNat default).Xj⟩ : ZC))]⟩) (Zce (id := 1) R0 (⟨r, ((a0.Ze.getD p1.2.2.toNat default).Zc.getD p2.2.2.toNat default).Xj⟩ : ZC) rfl rfl rfl rfl rfl rfl rfl rfl) [] [3, 4, 5, 7, 9, 10, 11, 14, 15, 16, 22, 23, 24] 6 (fun _ => ⟨82, [(3, .asl 2 0 p2.1.length), (4, .val u), (5, .int .i64 p1.2.2), (7, .int .i64 p2.2.2), (9, .ref 5 0), (10, .int .i64 (lkM (topoKeyEq (⟨r, ((a0.Ze.getD p1.2.2.toNat default).Zc.getD p2.2.2.toNat default).Xj⟩ : ZC)) p2.2.1).1), (11, .bool (lkM (topoKeyEq (⟨r, ((a0.Ze.getD p1.2.2.toNat default).Zc.getD p2.2.2.toNat default).Xj⟩ : ZC)) p2.2.1).2), u1, (15, .int .i64 u2), (16, .int .i64 p1.2.2), (22, sL 12 Zd (a0.Ze.getD p1.2.2.toNat default).Zc), (23, .int .i64 ((a0.Ze.getD p1.2.2.toNat default).Zc.length : Int)), (24, .int .i64 p2.2.2)], [.box u3, mpO u Zy p2.2.1, rA 4 hdDom p2.1 v2, rF 2 Xz Zp.XA p2.1 v2, .box (Zd ((a0.Ze.getD p1.2.2.toNat default).Zc.getD p2.2.2.toNat default)), .box (Zy (⟨r, ((a0.Ze.getD p1.2.2.toNat default).Zc.getD p2.2.2.toNat default).Xj⟩ : ZC))]⟩) (fun _ => []) (fun _ => []) (fun _ => ZA) (fun _ => trivial) (fun _ => ?_)
           refine Zb ?_
           refine GW (fun (q : u7 × u5 × Int × (Nat → Value)) => ⟨82, [(3, .asl 2 0 q.1.length), (4, .val u), (5, .int .i64 p1.2.2), (7, .int .i64 p2.2.2), (10, .int .i64 q.2.2.1), u1, (15, .int .i64 u2), (16, .int .i64 p1.2.2), (22, sL 12 Zd (a0.Ze.getD p1.2.2.toNat default).Zc), (23, .int .i64 ((a0.Ze.getD p1.2.2.toNat default).Zc.length : Int)), (24, .int .i64 p2.2.2)], [.box u3, mpO u Zy q.2.1, rA 4 hdDom q.1 q.2.2.2, rF 2 Xz Zp.XA q.1 q.2.2.2]⟩) (fun q => M.Ya p1.2.2 p2 (q.1, q.2.1, q.2.2.1) = some y3) ?_ ?_
           · intro q h11
             unfold M.Ya at h11
             obtain ⟨c4, h12⟩ := ZP h11
             have g1 : 0 ≤ q.2.2.1 := of_decide_eq_true (c4 _ (by simp only [List.mem_cons, true_or]))
             have g2 : q.2.2.1 < (q.1.length : Int) := of_decide_eq_true (c4 _ (by simp only [List.mem_cons, true_or, or_true]))
             have g3 : ((q.1.getD (0 + q.2.2.1.toNat) default).XA.length + 1) * 16 ≤ 140737488355328 := of_decide_eq_true (c4 _ (by simp only [List.mem_cons, true_or, or_true]))
             refine JP (Zdn (idf := 3) (0 + q.2.2.1.toNat) rfl) ?_
             refine rgxe 12 [] [3, 4, 5, 14, 15, 16, 22, 23, 24, 65, 66, 76] 5 ⟨82, [(3, .asl 2 0 q.1.length), (4, .val u), (5, .int .i64 p1.2.2), u1, (15, .int .i64 u2), (16, .int .i64 p1.2.2), (22, sL 12 Zd (a0.Ze.getD p1.2.2.toNat default).Zc), (23, .int .i64 ((a0.Ze.getD p1.2.2.toNat default).Zc.length : Int)), (24, .int .i64 p2.2.2), (65, .asl 2 0 q.1.length), (66, .int .i64 q.2.2.1), (76, .asl 4 0 ((q.1.getD (0 + q.2.2.1.toNat) default).XA.length + 1))], [.box u3, mpO u Zy q.2.1, rA 4 hdDom q.1 q.2.2.2, .fam (0 + q.2.2.1.toNat) (fun _ => false) q.1.length 2 (updV q.2.2.2 (0 + q.2.2.1.toNat) nilV) (updL (rls Xz Zp.XA q.1) (0 + q.2.2.1.toNat) (0, fun _ => [])), .arr 2 ((q.1.getD (0 + q.2.2.1.toNat) default).XA.length + 1) (app (rls Xz Zp.XA q.1 (0 + q.2.2.1.toNat)).2 (rls Xz Zp.XA q.1 (0 + q.2.2.1.toNat)).1 (fun i => List.take 2 (List.drop (i * 2) [.int .i64 p1.2.2, .int .i64 p2.2.2])))]⟩ [decide (0 ≤ q.2.2.1), decide (q.2.2.1 < (q.1.length : Int)), pB (q.2.2.2 (0 + q.2.2.1.toNat) = q.2.2.2 (0 + q.2.2.1.toNat)), decide ((0 + q.2.2.1.toNat) < q.1.length), decide (((q.1.getD (0 + q.2.2.1.toNat) default).XA.length + 1) * 16 ≤ 140737488355328)] [] ?_ trivial _ (ZcR (idf := 3) 76 (0 + q.2.2.1.toNat) rfl rfl rfl ?_ rfl) [] [3, 4, 5, 14, 15, 16, 22, 23, 24] 4 (fun w => ⟨82, [(3, .asl 2 0 q.1.length), (4, .val u), (5, .int .i64 p1.2.2), u1, (15, .int .i64 u2), (16, .int .i64 p1.2.2), (22, sL 12 Zd (a0.Ze.getD p1.2.2.toNat default).Zc), (23, .int .i64 ((a0.Ze.getD p1.2.2.toNat default).Zc.length : Int)), (24, .int .i64 p2.2.2)], [.box u3, mpO u Zy q.2.1, .arr 4 q.1.length (fun j => bif Nat.beq j (0 + q.2.2.1.toNat) then splice (hdDom (q.1.getD (0 + q.2.2.1.toNat) default) ++ [.val (q.2.2.2 (0 + q.2.2.1.toNat))]) [.val w] 3 else hdDom (q.1.getD j default) ++ [.val (q.2.2.2 j)]), .fam 0 (fun _ => false) q.1.length 2 (updV (updV q.2.2.2 (0 + q.2.2.1.toNat) nilV) (0 + q.2.2.1.toNat) w) (updL (updL (rls Xz Zp.XA q.1) (0 + q.2.2.1.toNat) (0, fun _ => [])) (0 + q.2.2.1.toNat) ((q.1.getD (0 + q.2.2.1.toNat) default).XA.length + 1, (app (rls Xz Zp.XA q.1 (0 + q.2.2.1.toNat)).2 (rls Xz Zp.XA q.1 (0 + q.2.2.1.toNat)).1 (fun i => List.take 2 (List.drop (i * 2) [.int .i64 p1.2.2, .int .i64 p2.2.2])))))]⟩) (fun _ => [decide (0 ≤ q.2.2.1), decide (q.2.2.1 < (q.1.length : Int))]) (fun _ => []) ?_ (fun _ => trivial) (fun w => ?_)
             · exact am (decide_eq_true g1) (am (decide_eq_true g2) (am (Zde rfl) (am (decide_eq_true (by omega)) (am (decide_eq_true g3) ZA))))
             · rw [Q1]; rfl
             · exact fun _ => am (decide_eq_true g1) (am (decide_eq_true g2) ZA)
             refine YQ ?_
             refine Yy (s' := ⟨82, [(3, .asl 2 0 (q.1.set (0 + q.2.2.1.toNat) (⟨(q.1.getD (0 + q.2.2.1.toNat) default).Z5, (q.1.getD (0 + q.2.2.1.toNat) default).Xj, (q.1.getD (0 + q.2.2.1.toNat) default).XA ++ [(⟨p1.2.2, p2.2.2⟩ : Je)]⟩ : Zp)).length), (4, .val u), (5, .int .i64 p1.2.2), (14, sL 25 Zv a0.Ze), (15, .int .i64 (a0.Ze.length : Int)), (16, .int .i64 p1.2.2), (22, sL 12 Zd (a0.Ze.getD p1.2.2.toNat default).Zc), (23, .int .i64 ((a0.Ze.getD p1.2.2.toNat default).Zc.length : Int)), (24, .int .i64 p2.2.2)], [.box (Xy a0), mpO u Zy q.2.1, rA 4 hdDom (q.1.set (0 + q.2.2.1.toNat) (⟨(q.1.getD (0 + q.2.2.1.toNat) default).Z5, (q.1.getD (0 + q.2.2.1.toNat) default).Xj, (q.1.getD (0 + q.2.2.1.toNat) default).XA ++ [(⟨p1.2.2, p2.2.2⟩ : Je)]⟩ : Zp)) (updV q.2.2.2 (0 + q.2.2.1.toNat) w), rF 2 Xz Zp.XA (q.1.set (0 + q.2.2.1.toNat) (⟨(q.1.getD (0 + q.2.2.1.toNat) default).Z5, (q.1.getD (0 + q.2.2.1.toNat) default).Xj, (q.1.getD (0 + q.2.2.1.toNat) default).XA ++ [(⟨p1.2.2, p2.2.2⟩ : Je)]⟩ : Zp)) (updV q.2.2.2 (0 + q.2.2.1.toNat) w)]⟩) (Le.trans (Zc3 2 3 hdDom Xz Zp.XA q.1 (⟨(q.1.getD (0 + q.2.2.1.toNat) default).Z5, (q.1.getD (0 + q.2.2.1.toNat) default).Xj, (q.1.getD (0 + q.2.2.1.toNat) default).XA ++ [(⟨p1.2.2, p2.2.2⟩ : Je)]⟩ : Zp) q.2.2.2 (0 + q.2.2.1.toNat) w ((q.1.getD (0 + q.2.2.1.toNat) default).XA.length + 1) (app (rls Xz Zp.XA q.1 (0 + q.2.2.1.toNat)).2 (rls Xz Zp.XA q.1 (0 + q.2.2.1.toNat)).1 (fun i => List.take 2 (List.drop (i * 2) [.int .i64 p1.2.2, .int .i64 p2.2.2]))) _ _ _ (by decide) rfl rfl (fun j _ hj => by rw [K9 hj]; rfl) (fun _ => by rw [Nat.beq_refl]; rfl) (fun j hj => JU hj) (fun j hj => Ur hj) (by simp) (fun i hi => Wp Xz (q.1.getD (0 + q.2.2.1.toNat) default).XA (⟨p1.2.2, p2.2.2⟩ : Je) (fun i => List.take 2 (List.drop (i * 2) [.int .i64 p1.2.2, .int .i64 p2.2.2])) rfl i hi)) (Y5 (.cons (Qk (by simp)) (.cons Sub.rfl (.cons Sub.rfl (.cons Sub.rfl (.cons Sub.rfl (.cons Sub.rfl (.cons Sub.rfl (.cons Sub.rfl (.cons Sub.rfl .nil))))))))) HSub.rfl)) ?_
             refine rg0 [3, 4, 5, 14, 15, 16, 22, 23, 24] 4 ⟨82, [(3, .asl 2 0 (q.1.set (0 + q.2.2.1.toNat) (⟨(q.1.getD (0 + q.2.2.1.toNat) default).Z5, (q.1.getD (0 + q.2.2.1.toNat) default).Xj, (q.1.getD (0 + q.2.2.1.toNat) default).XA ++ [(⟨p1.2.2, p2.2.2⟩ : Je)]⟩ : Zp)).length), (4, .val u), (5, .int .i64 p1.2.2), u1, (15, .int .i64 u2), (16, .int .i64 p1.2.2), (22, sL 12 Zd (a0.Ze.getD p1.2.2.toNat default).Zc), (23, .int .i64 ((a0.Ze.getD p1.2.2.toNat default).Zc.length : Int)), (24, .int .i64 (wr .i64 (p2.2.2 + 1)))], [.box u3, mpO u Zy q.2.1, rA 4 hdDom (q.1.set (0 + q.2.2.1.toNat) (⟨(q.1.getD (0 + q.2.2.1.toNat) default).Z5, (q.1.getD (0 + q.2.2.1.toNat) default).Xj, (q.1.getD (0 + q.2.2.1.toNat) default).XA ++ [(⟨p1.2.2, p2.2.2⟩ : Je)]⟩ : Zp)) (updV q.2.2.2 (0 + q.2.2.1.toNat) w), rF 2 Xz Zp.XA (q.1.set (0 + q.2.2.1.toNat) (⟨(q.1.getD (0 + q.2.2.1.toNat) default).Z5, (q.1.getD (0 + q.2.2.1.toNat) default).Xj, (q.1.getD (0 + q.2.2.1.toNat) default).XA ++ [(⟨p1.2.2, p2.2.2⟩ : Je)]⟩ : Zp)) (updV q.2.2.2 (0 + q.2.2.1.toNat) w)]⟩ ?_
             obtain rfl := Option.some.inj h12
             exact Wq (updV q.2.2.2 (0 + q.2.2.1.toNat) w) Vi
           · intro hk
             refine Za (rg0 [3, 4, 5, 7, 9, 10, 14, 15, 16, 22, 23, 24, 51] 6 ⟨82, [(3, .asl 2 0 p2.1.length), (4, .val u), (5, .int .i64 p1.2.2), (7, .int .i64 p2.2.2), (9, .ref 5 0), (10, .int .i64 (lkM (topoKeyEq (⟨r, ((a0.Ze.getD p1.2.2.toNat default).Zc.getD p2.2.2.toNat default).Xj⟩ : ZC)) p2.2.1).1), u1, (15, .int .i64 u2), (16, .int .i64 p1.2.2), (22, sL 12 Zd (a0.Ze.getD p1.2.2.toNat default).Zc), (23, .int .i64 ((a0.Ze.getD p1.2.2.toNat default).Zc.length : Int)), (24, .int .i64 p2.2.2), (51, .bool (!(lkM (topoKeyEq (⟨r, ((a0.Ze.getD p1.2.2.toNat default).Zc.getD p2.2.2.toNat default).Xj⟩ : ZC)) p2.2.1).2))], [.box u3, mpO u Zy p2.2.1, rA 4 hdDom p2.1 v2, rF 2 Xz Zp.XA p2.1 v2, .box (Zd ((a0.Ze.getD p1.2.2.toNat default).Zc.getD p2.2.2.toNat default)), .box (Zy (⟨r, ((a0.Ze.getD p1.2.2.toNat default).Zc.getD p2.2.2.toNat default).Xj⟩ : ZC))]⟩ ?_)
             refine Zb ?_
             refine cnd (!(lkM (topoKeyEq (⟨r, ((a0.Ze.getD p1.2.2.toNat default).Zc.getD p2.2.2.toNat default).Xj⟩ : ZC)) p2.2.1).2) (fun b4 => ?_) (fun b4 => ?_)
             · have h11 := Wo b4 h10
               obtain ⟨c4, h12⟩ := ZP h11
               refine Za (rg0 [3, 4, 5, 7, 9, 10, 14, 15, 16, 22, 23, 24] 6 ⟨82, [(3, .asl 2 0 p2.1.length), (4, .val u), (5, .int .i64 p1.2.2), (7, .int .i64 p2.2.2), (9, .ref 5 0), (10, .int .i64 (p2.1.length : Int)), u1, (15, .int .i64 u2), (16, .int .i64 p1.2.2), (22, sL 12 Zd (a0.Ze.getD p1.2.2.toNat default).Zc), (23, .int .i64 ((a0.Ze.getD p1.2.2.toNat default).Zc.length : Int)), (24, .int .i64 p2.2.2)], [.box u3, mpO u Zy p2.2.1, rA 4 hdDom p2.1 v2, rF 2 Xz Zp.XA p2.1 v2, .box (Zd ((a0.Ze.getD p1.2.2.toNat default).Zc.getD p2.2.2.toNat default)), .box (Zy (⟨r, ((a0.Ze.getD p1.2.2.toNat default).Zc.getD p2.2.2.toNat default).Xj⟩ : ZC))]⟩ ?_)
               refine Zb (Za ?_)
               refine rgo 3 [] [3, 4, 5, 7, 9, 10, 14, 15, 16, 22, 23, 24, 54, 55, 56] 6 ⟨82, [(3, .asl 2 0 p2.1.length), (4, .val u), (5, .int .i64 p1.2.2), (7, .int .i64 p2.2.2), (9, .ref 5 0), (10, .int .i64 (p2.1.length : Int)), (14, sL 25 Zv a0.Ze), (15, .int .i64 (a0.Ze.length : Int)), (16, .int .i64 p1.2.2), (22, sL 12 Zd (a0.Ze.getD p1.2.2.toNat default).Zc), (23, .int .i64 ((a0.Ze.getD p1.2.2.toNat default).Zc.length : Int)), (24, .int .i64 p2.2.2), (54, .val u), (55, .agg (Zy (⟨r, ((a0.Ze.getD p1.2.2.toNat default).Zc.getD p2.2.2.toNat default).Xj⟩ : ZC))), (56, .int .i64 (p2.1.length : Int))], [.box (Xy a0), mpO u Zy p2.2.1, rA 4 hdDom p2.1 v2, rF 2 Xz Zp.XA p2.1 v2, .box (Zd ((a0.Ze.getD p1.2.2.toNat default).Zc.getD p2.2.2.toNat default)), .box (Zy (⟨r, ((a0.Ze.getD p1.2.2.toNat default).Zc.getD p2.2.2.toNat default).Xj⟩ : ZC))]⟩ [] [] ZA trivial (fun _ : Unit => ⟨82, [(3, .asl 2 0 p2.1.length), (4, .val u), (5, .int .i64 p1.2.2), (7, .int .i64 p2.2.2), (9, .ref 5 0), (10, .int .i64 (p2.1.length : Int)), (14, sL 25 Zv a0.Ze), (15, .int .i64 (a0.Ze.length : Int)), (16, .int .i64 p1.2.2), (22, sL 12 Zd (a0.Ze.getD p1.2.2.toNat default).Zc), (23, .int .i64 ((a0.Ze.getD p1.2.2.toNat default).Zc.length : Int)), (24, .int .i64 p2.2.2), (54, .val u), (55, .agg (Zy (⟨r, ((a0.Ze.getD p1.2.2.toNat default).Zc.getD p2.2.2.toNat default).Xj⟩ : ZC))), (56, .int .i64 (p2.1.length : Int))], [.box (Xy a0), mpO u Zy (p2.2.1 ++ [((⟨r, ((a0.Ze.getD p1.2.2.toNat default).Zc.getD p2.2.2.toNat default).Xj⟩ : ZC), (p2.1.length : Int))]), rA 4 hdDom p2.1 v2, rF 2 Xz Zp.XA p2.1 v2, .box (Zd ((a0.Ze.getD p1.2.2.toNat default).Zc.getD p2.2.2.toNat default)), .box (Zy (⟨r, ((a0.Ze.getD p1.2.2.toNat default).Zc.getD p2.2.2.toNat default).Xj⟩ : ZC))]⟩) (Zc1 (id := 1) R0 (⟨r, ((a0.Ze.getD p1.2.2.toNat default).Zc.getD p2.2.2.toNat default).Xj⟩ : ZC) (p2.1.length : Int) rfl rfl rfl rfl rfl rfl rfl rfl (by simpa using b4)) [] [3, 4, 5, 7, 9, 10, 14, 15, 16, 22, 23, 24] 6 (fun _ => ⟨82, [(3, .asl 2 0 p2.1.length), (4, .val u), (5, .int .i64 p1.2.2), (7, .int .i64 p2.2.2), (9, .ref 5 0), (10, .int .i64 (p2.1.length : Int)), (14, sL 25 Zv a0.Ze), (15, .int .i64 (a0.Ze.length : Int)), (16, .int .i64 p1.2.2), (22, sL 12 Zd (a0.Ze.getD p1.2.2.toNat default).Zc), (23, .int .i64 ((a0.Ze.getD p1.2.2.toNat default).Zc.length : Int)), (24, .int .i64 p2.2.2)], [.box (Xy a0), mpO u Zy (p2.2.1 ++ [((⟨r, ((a0.Ze.getD p1.2.2.toNat default).Zc.getD p2.2.2.toNat default).Xj⟩ : ZC), (p2.1.length : Int))]), rA 4 hdDom p2.1 v2, rF 2 Xz Zp.XA p2.1 v2, .box (Zd ((a0.Ze.getD p1.2.2.toNat default).Zc.getD p2.2.2.toNat default)), .box (Zy (⟨r, ((a0.Ze.getD p1.2.2.toNat default).Zc.getD p2.2.2.toNat default).Xj⟩ : ZC))]⟩) (fun _ => []) (fun _ => []) (fun _ => ZA) (fun _ => trivial) (fun _ => ?_)
               refine Zb ?_
               refine rgc [3, 4, 5, 7, 10, 14, 15, 16, 22, 23, 24] 4 ⟨82, [(3, .asl 2 0 (p2.1.length + 1)), (4, .val u), (5, .int .i64 p1.2.2), (7, .int .i64 p2.2.2), (10, .int .i64 (p2.1.length : Int)), u1, (15, .int .i64 u2), (16, .int .i64 p1.2.2), (22, sL 12 Zd (a0.Ze.getD p1.2.2.toNat default).Zc), (23, .int .i64 ((a0.Ze.getD p1.2.2.toNat default).Zc.length : Int)), (24, .int .i64 p2.2.2)], [.box u3, mpO u Zy (p2.2.1 ++ [((⟨r, ((a0.Ze.getD p1.2.2.toNat default).Zc.getD p2.2.2.toNat default).Xj⟩ : ZC), (p2.1.length : Int))]), .arr 4 (p2.1.length + 1) (app (fun j => hdDom (p2.1.getD j default) ++ [.val (v2 j)]) p2.1.length (fun i => List.take 4 (List.drop (i * 4) [.int .u32 r.XO, .int .i64 r.X2, .int .i64 ((a0.Ze.getD p1.2.2.toNat default).Zc.getD p2.2.2.toNat default).Xj, .sl true 2 0 (fun _ => [])]))), rF 2 Xz Zp.XA p2.1 v2]⟩ [decide ((p2.1.length + 1) * 48 ≤ 140737488355328)] c4 ?_
               refine UC (Zbf 2 3 hdDom Xz Zp.XA p2.1 (⟨r, ((a0.Ze.getD p1.2.2.toNat default).Zc.getD p2.2.2.toNat default).Xj, []⟩ : Zp) v2 (by decide) rfl rfl rfl (fun j hj => Zc2 hj) (Zdy.trans rfl)) fun w => ?_
               exact JP (Y5 (.cons (Qk (by simp)) (.cons Sub.rfl (.cons Sub.rfl (.cons Sub.rfl (.cons Sub.rfl (.cons Sub.rfl (.cons Sub.rfl (.cons Sub.rfl (.cons Sub.rfl (.cons Sub.rfl (.cons Sub.rfl .nil))))))))))) HSub.rfl) (hk (p2.1 ++ [(⟨r, ((a0.Ze.getD p1.2.2.toNat default).Zc.getD p2.2.2.toNat default).Xj, []⟩ : Zp)], (p2.2.1 ++ [((⟨r, ((a0.Ze.getD p1.2.2.toNat default).Zc.getD p2.2.2.toNat default).Xj⟩ : ZC), (p2.1.length : Int))]), (p2.1.length : Int), updV v2 p2.1.length w.1) h12)
             · have h11 := UY b4 h10
               refine Zf ?_
               exact Yy (Le.trans (s' := ⟨82, [(3, .asl 2 0 p2.1.length), (4, .val u), (5, .int .i64 p1.2.2), (7, .int .i64 p2.2.2), (10, .int .i64 (lkM (topoKeyEq (⟨r, ((a0.Ze.getD p1.2.2.toNat default).Zc.getD p2.2.2.toNat default).Xj⟩ : ZC)) p2.2.1).1), u1, (15, .int .i64 u2), (16, .int .i64 p1.2.2), (22, sL 12 Zd (a0.Ze.getD p1.2.2.toNat default).Zc), (23, .int .i64 ((a0.Ze.getD p1.2.2.toNat default).Zc.length : Int)), (24, .int .i64 p2.2.2)], [.box u3, mpO u Zy p2.2.1, rA 4 hdDom p2.1 v2, rF 2 Xz Zp.XA p2.1 v2, .box (Zd ((a0.Ze.getD p1.2.2.toNat default).Zc.getD p2.2.2.toNat default)), .box (Zy (⟨r, ((a0.Ze.getD p1.2.2.toNat default).Zc.getD p2.2.2.toNat default).Xj⟩ : ZC))]⟩) (kp [3, 4, 5, 7, 10, 14, 15, 16, 22, 23, 24]) (Vf (n := 4) (by kernel_rfl))) (hk (p2.1, p2.2.1, (lkM (topoKeyEq (⟨r, ((a0.Ze.getD p1.2.2.toNat default).Zc.getD p2.2.2.toNat default).Xj⟩ : ZC)) p2.2.1).1, v2) h11)
       · have h7 := UY b2 h6
         refine Xi (X8 ?_)
         obtain rfl := Option.some.inj h7
         exact UD ⟨rfl, LeE.of v2 (kp [3, 4, 14, 15, 16])⟩
     · intro e s o
       obtain ⟨rfl, l⟩ := o
       refine JE (YQ ?_)
       refine UC l fun v2 => ?_
       refine rg0 [3, 4, 14, 15, 16] 4 ⟨82, [(3, .asl 2 0 y2.1.length), (4, .val u), u1, (15, .int .i64 u2), (16, .int .i64 (wr .i64 (p1.2.2 + 1)))], [.box u3, mpO u Zy y2.2, rA 4 hdDom y2.1 v2, rF 2 Xz Zp.XA y2.1 v2]⟩ ?_
       obtain rfl := Option.some.inj h5
       exact Wq v2 Vi
   · have h3 := UY b1 h2
     refine Xi (X8 ?_)
     obtain rfl := Option.some.inj h3
     exact UD ⟨rfl, LeE.of (v1, p1.2.1) (kp [3])⟩
 · intro e s o
   obtain ⟨rfl, l⟩ := o
   refine JE ?_
   refine UC l fun g => ?_
   refine Za (rg0 [2] 4 ⟨82, [(2, .asl 2 0 y.length)], [.box u3, mpO u Zy g.2, rA 4 hdDom y g.1, rF 2 Xz Zp.XA y g.1]⟩ ?_)
   refine Zb (Zs ?_)
   exact ⟨_, Zc4 2 3 hdDom Xz Zp.XA ZM y g.1 rfl rfl (fun _ => rfl), .inr rfl, 2, 2, _, rfl, rfl, rfl, fun _ _ => rfl⟩
theorem J5 (a0 : Int) (r : Bool) (h : M.Xw a0 = some r) : Fn Tryz.prog 100 [.int .u32 a0] (.pure (.bool r)) := by
 unfold M.Xw at h
 exact ZR Tryz.func100 rfl (by kernel_rfl) (Za (zg [0] 0 (Zb (Za (zg [2] 0 (Zb (Zs (er1 h))))))))
theorem Wa (a0 : Int) (a1 : Int) (r : Int) (h : M.XB a0 a1 = some r) : Fn Tryz.prog 63 [.int .u32 a0, .int .u32 a1] (.pure (.int .i64 r)) := by
 unfold M.XB at h
 refine ZR Tryz.func63 rfl (by kernel_rfl) (Za (zg [0, 1] 0 (Zb (Za ?_))))
 obtain ⟨r1, q1, h2⟩ := bind_some h
 refine zr [0, 1, 5] 0 ZA (rq1 (J5 _ _ q1) rqn) (Zb (Za ?_))
 obtain ⟨r2, q3, h4⟩ := bind_some h2
 refine zr [0, 1, 5, 6] 0 ZA (rq1 (J5 _ _ q3) rqn) (Zb (Za (Za (zg [0, 1, 6, 11] 0 (Zb (cn h4 (fun _ h6 => ?_) (fun _ h7 => ?_)))))))
 refine Za (Za (zg [12] 0 (Zb (cn h6 (fun _ h9 => ?_) (fun _ h10 => ?_)))))
 exact Za (zg [4] 0 (Zb (Zs (Xk (Xk (er1 h9))))))
 exact Zf (Zb (Za (zg [4] 0 (Zb (Zs (Xk (er1 h10)))))))
 refine Zf (Zb (Za (Za (zg [0, 1, 13] 0 (Zb (cn h7 (fun _ h12 => ?_) (fun _ h13 => ?_)))))))
 exact Za (zg [4] 0 (Zb (Zs (Xk (er1 h12)))))
 refine Zf (Zb (Za (Za (zg [0, 1, 16] 0 (Zb (cn h13 (fun _ h15 => ?_) (fun _ h16 => ?_)))))))
 exact Za (zg [4] 0 (Zb (Zs (Xk (er1 h15)))))
 refine Zf (Zb (Za (Za (zg [19] 0 (Zb (cn h16 (fun _ h18 => ?_) (fun _ h19 => ?_)))))))
 exact Za (zg [4] 0 (Zb (Zs (Xk (er1 h18)))))
 exact Zf (Zb (Za (zg [4] 0 (Zb (Zs (er1 h19))))))
theorem VT (a0 : Int) (r : Bool) (h : M.X4 a0 = some r) : Fn Tryz.prog 64 [.int .i64 a0] (.pure (.bool r)) := by
 unfold M.X4 at h
 exact ZR Tryz.func64 rfl (by kernel_rfl) (Za (zg [0] 0 (Zb (Za (zg [2] 0 (Zb (Zs (er1 h))))))))
theorem Vn (a0 : Int) (a1 : Int) (r : Int) (h : M.XI a0 a1 = some r) : Fn Tryz.prog 43 [.int .i64 a0, .int .i64 a1] (.pure (.int .i64 r)) := by
 unfold M.XI at h
 refine ZR Tryz.func43 rfl (by kernel_rfl) (Za (zg [0, 1] 0 (Zb (Za ?_))))
 obtain ⟨r1, q1, h2⟩ := bind_some h
 refine zr [0, 1, 5] 0 ZA (rq1 (VT _ _ q1) rqn) (Zb (Za ?_))
 obtain ⟨r2, q3, h4⟩ := bind_some h2
 refine zr [0, 1, 5, 6] 0 ZA (rq1 (VT _ _ q3) rqn) (Zb (Za (Za (zg [0, 1, 6, 11] 0 (Zb (cn h4 (fun _ h6 => ?_) (fun _ h7 => ?_)))))))
 refine Za (Za (zg [12] 0 (Zb (cn h6 (fun _ h9 => ?_) (fun _ h10 => ?_)))))
 exact Za (zg [4] 0 (Zb (Zs (Xk (Xk (er1 h9))))))
 exact Zf (Zb (Za (zg [4] 0 (Zb (Zs (Xk (er1 h10)))))))
 refine Zf (Zb (Za (Za (zg [0, 1, 13] 0 (Zb (cn h7 (fun _ h12 => ?_) (fun _ h13 => ?_)))))))
 exact Za (zg [4] 0 (Zb (Zs (Xk (er1 h12)))))
 refine Zf (Zb (Za (Za (zg [0, 1, 16] 0 (Zb (cn h13 (fun _ h15 => ?_) (fun _ h16 => ?_)))))))
 exact Za (zg [4] 0 (Zb (Zs (Xk (er1 h15)))))
 refine Zf (Zb (Za (Za (zg [19] 0 (Zb (cn h16 (fun _ h18 => ?_) (fun _ h19 => ?_)))))))
 exact Za (zg [4] 0 (Zb (Zs (Xk (er1 h18)))))
 exact Zf (Zb (Za (zg [4] 0 (Zb (Zs (er1 h19))))))
theorem Gv (a0 : Z4) (a1 : Z4) (r : Int) (h : M.YP a0 a1 = some r) : Fn Tryz.prog 42 [.agg (ZY a0), .agg (ZY a1)] (.pure (.int .i64 r)) := by
 unfold M.YP at h
 refine ZR Tryz.func42 rfl (by kernel_rfl) (Za (zg [2, 3] 2 (Zb (Za (Za ?_)))))
 obtain ⟨r1, q1, h2⟩ := bind_some h
 refine zr [2, 3, 5] 2 ZA (rq1 (Wa _ _ _ q1) rqn) (Zb (Za (zg [2, 3, 5, 12] 2 (Zb (cn h2 (fun _ h4 => ?_) (fun _ h5 => ?_))))))
 exact Za (zg [4] 0 (Zb (Zs (Xk (er1 h4)))))
 refine Zf (Zb (Za ?_))
 obtain ⟨r2, q6, h7⟩ := bind_some h5
 exact zr [4] 0 ZA (rq1 (Vn _ _ _ q6) rqn) (Zb (Zs (er1 h7)))
theorem Kl (a0 : List Int) (r : Int) (h : M.Qi a0 = some r) : Fn Tryz.prog 41 [sL 1 (ci .i64) a0] (.pure (.int .i64 r)) := by
 unfold M.Qi at h
 refine ZR Tryz.func41 rfl (by kernel_rfl) (Za (zg [0] 0 (Zb (Za (zg [0, 3] 0 (Zb (Za (Za (zg [3, 6, 7, 8] 0 (Zb (Zt ?_)))))))))))
 obtain ⟨y3, q10, h11⟩ := bind_some h
 refine zl (fun (p1 : Int) => ⟨18, [(3, .int .i64 0), (6, sL 1 (ci .i64) a0), (7, .int .i64 (a0.length : Int)), (8, .int .i64 p1)], []⟩) (Sum.elim (fun z => OutE 0 (fun z => ⟨18, [(3, .int .i64 0)], []⟩) z) (fun z => OutR Tryz.prog Tryz.f41 (.int .i64 z))) q10 ?_ ?_
 intro p1 y2 h1
 unfold M.XU at h1
 refine Za (zg [3, 6, 7, 8, 9] 0 (Zb (Za (cn h1 (fun _ h3 => ?_) (fun _ h4 => ?_)))))
 refine Zf (Zb (Za (Zt (Za ?_))))
 obtain ⟨c5, h6⟩ := ZP h3
 refine zc [3, 5, 6, 7, 8] 0 c5 (Zb (Za (zg [3, 5, 6, 7, 8, 14] 0 (Zb (cn h6 (fun _ h8 => ?_) (fun _ h9 => ?_))))))
 exact Za (zg [2] 0 (Zb (Zs (JM (Xk (rr h8 ⟨rfl, er0 _⟩))))))
 exact Zf (YQ (Zb (zg [3, 6, 7, 8] 0 (rn h9))))
 exact Xi (X8 (re h4 ⟨rfl, kq⟩))
 intro e12 s13 o14
 rcases y3 with g4 | y5
 have h15 := VW h11
 exact zi o14 (Za (zg [2] 0 (Zb (Zs (er1 h15)))))
 have h16 := VX h11
 obtain ⟨rfl, n18⟩ := o14
 refine JM (Xk ?_)
 obtain rfl := Option.some.inj h16
 exact n18
theorem Gw (a0 : Zp) (a1 : Zp) (r : Int) (h : M.YE a0 a1 = some r) : Fn Tryz.prog 40 [.agg (ZM a0), .agg (ZM a1)] (.pure (.int .i64 r)) := by
 unfold M.YE at h
 refine ZR Tryz.func40 rfl (by kernel_rfl) (Za (zg [2, 3] 2 (Zb (Za ?_))))
 obtain ⟨r1, q1, h2⟩ := bind_some h
 obtain ⟨r2, q3, h4⟩ := bind_some h2
 obtain ⟨r3, q5, h6⟩ := bind_some h4
 exact rg [.pure (.int .i64 r1), .pure (.int .i64 r2), .pure (.int .i64 r3)] [4] 0 ⟨17, [(4, .int .i64 r3)], []⟩ [] [⟨true, 42, [.agg (ZY a0.Z5), .agg (ZY a1.Z5)], .pure (.int .i64 r1)⟩, ⟨true, 43, [.int .i64 a0.Xj, .int .i64 a1.Xj], .pure (.int .i64 r2)⟩, ⟨true, 41, [.sl false 1 2 (fun i => List.take 1 (List.drop (i * 1) [.int .i64 r1, .int .i64 r2]))], .pure (.int .i64 r3)⟩] ZA ⟨fun _ => Gv a0.Z5 a1.Z5 r1 q1, fun _ => Vn a0.Xj a1.Xj r2 q3, fun _ => (Kl ([r1, r2] : List Int) r3 q5).args (.cons (KX rfl (fun i hi => match i, hi with | 0, _ => rfl | 1, _ => rfl | n + 2, h => absurd h (by omega))) .nil), trivial⟩ (Zb (Zs (er1 h6)))
end Nv
namespace Go.Proofs
open Go.Shelf
shelf_lay_g SlLaysF0.n6 Slsf 6 at Tryz 39 as Tryz.sortL39
end Go.Proofs
namespace Nv
open Go Go.Proofs
theorem Y7 (a0 : List Zp) (r : List Zp) (h : M.ZQ a0 = some r) : FnM Tryz.prog 39 [.asl 0 0 a0.length, .fn 40 []] 4 a0.length (fun i => ZM (a0.getD i default)) (fun i => ZM (r.getD i default)) (.tup []) := by
 obtain ⟨cf, h1, h2, h3, h4, rfl⟩ := Zam h
 exact sortFR0 Tryz.sortL39 4 (fun w => by kernel_rfl) (fun w => by kernel_rfl) ZM (fun _ => rfl) (fun _ => rfl) h2 40 (enters_of Tryz.func40 (by kernel_rfl) rfl) (fun x y => Gw x y _ (h1 x y)) a0 h3 h4
theorem Km (a0 : Z7) (r : Q4 × Int) (h : M.QS a0 = some r) : Fn Tryz.prog 12 [.agg (Xy a0)] (.pure (.tup [.agg (Gj r.1), .int .i64 r.2])) := by
 let u3 := Xy a0
 unfold M.QS at h
 refine ZR Tryz.func12 rfl (by kernel_rfl) (Za (zg [1, 2] 2 (Zb (Za (Za ?_)))))
 obtain ⟨r1, q1, h2⟩ := bind_some h
 refine zr [1, 2, 4] 2 ZA (rq1 (Kf _ _ q1) rqn) (Zb (Za (zg [1, 2, 4, 12] 2 (Zb (cn h2 (fun _ h4 => ?_) (fun _ h5 => ?_))))))
 refine Za ?_
 cases h4
 refine Zf (Zb (Za ?_))
 obtain ⟨r2, q6, h7⟩ := bind_some h5
 refine rg [oL 4 ZM r2] [2, 5] 3 ⟨45, [(2, .ref 1 0), (5, .asl 2 0 r2.length)], [.box u3, .box [.sl true 4 0 (fun _ => []), .sl true 1 0 (fun _ => [])], aL 4 ZM r2]⟩ [] [⟨true, 38, [.agg u3], oL 4 ZM r2⟩] ZA ⟨fun _ => Gb a0 r2 q6, trivial⟩ (Zb (Za ?_))
 obtain ⟨r3, q8, h9⟩ := bind_some h7
 let u1 : List Ob := [.box u3, .box [.sl true 4 0 (fun _ => []), .sl true 1 0 (fun _ => [])], aL 4 ZM ([] : List Zp), .box [sL 4 ZM r3, .sl true 1 0 (fun _ => [])]]
 let u4 : Nat × D := (21, sL 4 ZM r3)
 let u5 := (r3.length : Int)
 obtain ⟨c10, h11⟩ := ZP h9
 refine rg [.lnd 0 0 (fun _ => []) (fun i => ZM (r3.getD i default)) (.tup [])] [2, 5] 3 ⟨45, [(2, .ref 1 0), (5, .asl 2 0 r2.length)], [.box u3, .box [.sl true 4 0 (fun _ => []), .sl true 1 0 (fun _ => [])], .arr 4 r2.length (fun i => ZM (r3.getD i default))]⟩ [] [⟨true, 39, [.asl 0 0 r2.length, .fn 40 []], .lnd 4 r2.length (fun i => ZM (r2.getD i default)) (fun i => ZM (r3.getD i default)) (.tup [])⟩] ZA ⟨fun _ => Y7 r2 r3 q8, trivial⟩ (Yy (s' := ⟨45, [(2, .ref 1 0), (5, .asl 2 0 r3.length)], [.box u3, .box [.sl true 4 0 (fun _ => []), .sl true 1 0 (fun _ => [])], aL 4 ZM r3]⟩) (Y5 (.cons Sub.rfl (.cons (Qk (ZbT (c10 _ List.mem_cons_self))) .nil)) (.cons .rfl (.cons .rfl (.cons (.arr (ZbT (c10 _ List.mem_cons_self)) (fun _ _ => rfl)) .nil)))) (Za (JP (s' := ⟨45, [(2, .ref 1 0), (5, sL 4 ZM r3)], [.box u3, .box [.sl true 4 0 (fun _ => []), .sl true 1 0 (fun _ => [])], aL 4 ZM ([] : List Zp)]⟩) (Le.trans (KZ 5 2 4 ZM r3 (fun i => ZM (([] : List Zp).getD i default)) (by kernel_rfl) (by kernel_rfl) (by kernel_rfl)) (kp [2, 5])) (zg [2, 5, 6] 4 (Zb (Za (Za (rg0 [2, 6, 21, 22, 23] 4 ⟨45, [(2, .ref 1 0), (6, .ref 3 0), u4, (22, .int .i64 u5), (23, .int .i64 0)], u1⟩ (Zb (Zt (JP (s' := ⟨45, [(2, .ref 1 0), (6, .ref 3 0), u4, (22, .int .i64 u5), (23, .int .i64 0)], u1⟩) (Vi) (JP (s' := ⟨45, [(2, .ref 1 0), (6, .ref 3 0), u4, (22, .int .i64 u5), (23, .int .i64 0)], [.box u3, .box [.sl true 4 0 (fun _ => []), .sl true 1 0 (fun _ => [])], aL 4 ZM ([] : List Zp), .box [sL 4 ZM r3, .asl 4 0 (([] : List Int).length)], aL 1 (ci .i64) ([] : List Int)]⟩) (Zch (nt := 45) (e := [(2, .ref 1 0), (6, .ref 3 0), u4, (22, .int .i64 u5), (23, .int .i64 0)]) (H := u1) (cells := [sL 4 ZM r3, .sl true 1 0 (fun _ => [])]) (wd := 1) (f := fun _ => []) 3 1 rfl rfl 1 (fun i => (ci .i64) (([] : List Int).getD i default))) ?_))))))))))))
 obtain ⟨y8, q28, h29⟩ := bind_some h11
 let u2 : List (Nat × D) := [(2, .ref 1 0), (6, .ref 3 0), (42, .bool (decide ((y8.length : Int) > 12)))]
 refine zl (fun (p5 : (List Int) × Int) => ⟨45, [(2, .ref 1 0), (6, .ref 3 0), u4, (22, .int .i64 u5), (23, .int .i64 p5.2)], [.box u3, .box [.sl true 4 0 (fun _ => []), .sl true 1 0 (fun _ => [])], aL 4 ZM ([] : List Zp), .box [sL 4 ZM r3, .asl 4 0 p5.1.length], aL 1 (ci .i64) p5.1]⟩) (fun z => OutE 0 (fun z => ⟨45, [(2, .ref 1 0), (6, .ref 3 0)], [.box u3, .box [.sl true 4 0 (fun _ => []), .sl true 1 0 (fun _ => [])], aL 4 ZM ([] : List Zp), .box [sL 4 ZM r3, .asl 4 0 z.length], aL 1 (ci .i64) z]⟩) z) q28 ?_ ?_
 intro p5 y6 h15
 let u6 := p5.1.length + 1
 unfold M.Qd at h15
 refine Za (rg0 [2, 6, 21, 22, 23, 24] 5 ⟨45, [(2, .ref 1 0), (6, .ref 3 0), u4, (22, .int .i64 u5), (23, .int .i64 p5.2), (24, .bool (decide (p5.2 < u5)))], [.box u3, .box [.sl true 4 0 (fun _ => []), .sl true 1 0 (fun _ => [])], aL 4 ZM ([] : List Zp), .box [sL 4 ZM r3, .asl 4 0 p5.1.length], aL 1 (ci .i64) p5.1]⟩ (Zb (Za (cn h15 (fun _ h17 => ?_) (fun _ h18 => ?_)))))
 refine Zf (Zb (GW (fun (p7 : (List Int)) => ⟨45, [(2, .ref 1 0), (6, .ref 3 0), u4, (22, .int .i64 u5), (23, .int .i64 p5.2)], [.box u3, .box [.sl true 4 0 (fun _ => []), .sl true 1 0 (fun _ => [])], aL 4 ZM ([] : List Zp), .box [sL 4 ZM r3, .asl 4 0 p7.length], aL 1 (ci .i64) p7]⟩) (fun p7 => M.Yv p5 p7 = some y6) ?_ ?_))
 intro p7 h20
 unfold M.Yv at h20
 exact zg [2, 6, 21, 22, 23] 5 (rn h20)
 intro k19
 refine Zt (Za ?_)
 obtain ⟨c21, h22⟩ := ZP h17
 refine zc [2, 6, 7, 8, 21, 22, 23] 6 c21 (Zb (Za (zg [2, 6, 7, 21, 22, 23, 31] 5 (Zb (cn h22 (fun _ h24 => ?_) (fun _ h25 => ?_))))))
 obtain ⟨c26, h27⟩ := ZP h24
 exact rgc [2, 6, 21, 22, 23] 5 ⟨45, [(2, .ref 1 0), (6, .ref 3 0), u4, (22, .int .i64 u5), (23, .int .i64 p5.2)], [.box u3, .box [.sl true 4 0 (fun _ => []), .sl true 1 0 (fun _ => [])], aL 4 ZM ([] : List Zp), .box [sL 4 ZM r3, .asl 4 0 u6], .arr 1 u6 (app (fun i => (ci .i64) (p5.1.getD i default)) p5.1.length (fun i => List.take 1 (List.drop (i * 1) [.int .i64 p5.2])))]⟩ [decide (u6 * 8 ≤ 140737488355328)] c26 (YQ (Yy (Y5 (.cons Sub.rfl (.cons Sub.rfl (.cons Sub.rfl (.cons Sub.rfl (.cons Sub.rfl .nil))))) (.cons .rfl (.cons .rfl (.cons .rfl (.cons (.box (.cons CSub.rfl (.cons (Zcg (QZ _ _)) .nil))) (.cons (.arr (QZ _ _) (Wp (ci .i64) p5.1 p5.2 _ rfl)) .nil)))))) (k19 (p5.1 ++ [p5.2]) h27)))
 exact Zf (YQ (Yy kq (k19 p5.1 h25)))
 exact Xi (X8 (re h18 ⟨rfl, kq⟩))
 intro e30 s31 o32
 refine zi o32 (Za (Za (rg0 [2, 6, 42] 5 ⟨45, u2, [.box u3, .box [.sl true 4 0 (fun _ => []), .sl true 1 0 (fun _ => [])], aL 4 ZM ([] : List Zp), .box [sL 4 ZM r3, .asl 4 0 y8.length], aL 1 (ci .i64) y8]⟩ (Zb (cn h29 (fun _ h35 => ?_) (fun _ h36 => ?_))))))
 refine Za ?_
 cases h35
 refine Zf (Zb (Za (JP (s' := ⟨45, u2, [.box u3, .box [.sl true 4 0 (fun _ => []), .sl true 1 0 (fun _ => [])], aL 4 ZM ([] : List Zp), .box [sL 4 ZM r3, .sl false 1 y8.length (fun k => (fun i => (ci .i64) (y8.getD i default)) (0 + k))], aL 1 (ci .i64) ([] : List Int)]⟩) (Le.trans ((GZ (s := ⟨45, u2, [.box u3, .box [.sl true 4 0 (fun _ => []), .sl true 1 0 (fun _ => [])], aL 4 ZM ([] : List Zp), .box [sL 4 ZM r3, .asl 4 0 y8.length], aL 1 (ci .i64) y8]⟩) (s' := ⟨45, u2, [.box u3, .box [.sl true 4 0 (fun _ => []), .sl true 1 0 (fun _ => [])], aL 4 ZM ([] : List Zp), .box [sL 4 ZM r3, .sl false 1 y8.length (fun k => (fun i => (ci .i64) (y8.getD i default)) (0 + k))], aL 1 (ci .i64) ([] : List Int)]⟩) 4 1 y8.length (fun i => (ci .i64) (y8.getD i default)) (fun i => (ci .i64) (([] : List Int).getD i default)) (by kernel_rfl) (by kernel_rfl) (by kernel_rfl))) (kp [2, 6, 42])) (rg0 [2, 3] 2 ⟨45, [(2, .ref 1 0), (3, .int .i64 0)], [.box u3, .box [sL 4 ZM r3, .sl false 1 y8.length (fun k => (fun i => (ci .i64) (y8.getD i default)) (0 + k))]]⟩ (Yy (s' := ⟨45, [(2, .ref 1 0), (3, .int .i64 0)], [.box u3, .box [sL 4 ZM r3, sL 1 (ci .i64) y8]]⟩) (Y5 (.cons Sub.rfl (.cons Sub.rfl .nil)) (.cons .rfl (.cons (.box (.cons CSub.rfl (.cons (VY rfl (Uy (f := fun i => (ci .i64) (y8.getD i default)) (fun _ _ => rfl))) .nil))) .nil))) (Zs ?_))))))
 obtain rfl := Option.some.inj h36
 exact er0 (.tup [.agg [sL 4 ZM r3, sL 1 (ci .i64) y8], .int .i64 0])
theorem Jf (a0 : List Zg) (r : List Zg) (h : M.ZW a0 = some r) : Fn Tryz.prog 68 [sL 25 Zv a0] (oL 25 Zv r) := by
 unfold M.ZW at h
 obtain ⟨hc, h1⟩ := ZP h
 obtain rfl := Option.some.inj h1
 refine W6 Tryz.func68 rfl (by kernel_rfl) (Jb ?_)
 refine Za (rg0 [0] 0 ⟨8, [(0, sL 25 Zv a0)], []⟩ ?_)
 refine Zb (Za (Za (rg0 [0, 4] 0 ⟨8, [(0, sL 25 Zv a0), (4, .nilq a0.length)], []⟩ ?_)))
 refine Zb (nq a0.length (fun hz => ?_) ?_)
 refine Za (rg0 [2] 0 ⟨8, [(2, .sl true 25 0 (fun _ => []))], []⟩ ?_)
 refine Zb (Zs (Xk ?_))
 obtain rfl := List.eq_nil_of_length_eq_zero hz
 exact ⟨_, VZ (wd := 25) (f := fun _ => []) 2 (by kernel_rfl) 25 (fun i => Zv (([] : List Zg).getD i default)), .inr rfl, 2, 0, _, rfl, rfl, rfl, fun _ _ => rfl⟩
 refine Zf (Zb (Za (rgc [2] 1 ⟨8, [(2, .asl 0 0 (0 + a0.length))], [.arr 25 (0 + a0.length) (app (fun i => List.take 25 (List.drop (i * 25) [])) 0 (fun i => Zv (a0.getD i default)))]⟩ [decide (0 = 0) || decide (0 < a0.length), decide ((0 + a0.length) * 448 ≤ 140737488355328)] hc ?_)))
 refine Zb (Zs ?_)
 exact ⟨⟨8, [(2, .asl 0 0 a0.length)], [aL 25 Zv a0]⟩, Y5 (.cons (Qk (Nat.zero_add _)) .nil) (.cons (.arr (Nat.zero_add _) (QQ Zv _ a0 _ (fun _ _ => rfl))) .nil), .inr rfl, 2, 0, _, rfl, rfl, rfl, fun _ _ => rfl⟩
theorem QI (a0 : List Zk) (r : List Zk) (h : M.ZH a0 = some r) : Fn Tryz.prog 113 [sL 12 Zd a0] (oL 12 Zd r) := by
 unfold M.ZH at h
 obtain ⟨hc, h1⟩ := ZP h
 obtain rfl := Option.some.inj h1
 refine W6 Tryz.func113 rfl (by kernel_rfl) (Jb ?_)
 refine Za (rg0 [0] 0 ⟨8, [(0, sL 12 Zd a0)], []⟩ ?_)
 refine Zb (Za (Za (rg0 [0, 4] 0 ⟨8, [(0, sL 12 Zd a0), (4, .nilq a0.length)], []⟩ ?_)))
 refine Zb (nq a0.length (fun hz => ?_) ?_)
 refine Za (rg0 [2] 0 ⟨8, [(2, .sl true 12 0 (fun _ => []))], []⟩ ?_)
 refine Zb (Zs (Xk ?_))
 obtain rfl := List.eq_nil_of_length_eq_zero hz
 exact ⟨_, VZ (wd := 12) (f := fun _ => []) 2 (by kernel_rfl) 12 (fun i => Zd (([] : List Zk).getD i default)), .inr rfl, 2, 0, _, rfl, rfl, rfl, fun _ _ => rfl⟩
 refine Zf (Zb (Za (rgc [2] 1 ⟨8, [(2, .asl 0 0 (0 + a0.length))], [.arr 12 (0 + a0.length) (app (fun i => List.take 12 (List.drop (i * 12) [])) 0 (fun i => Zd (a0.getD i default)))]⟩ [decide (0 = 0) || decide (0 < a0.length), decide ((0 + a0.length) * 112 ≤ 140737488355328)] hc ?_)))
 refine Zb (Zs ?_)
 exact ⟨⟨8, [(2, .asl 0 0 a0.length)], [aL 12 Zd a0]⟩, Y5 (.cons (Qk (Nat.zero_add _)) .nil) (.cons (.arr (Nat.zero_add _) (QQ Zd _ a0 _ (fun _ _ => rfl))) .nil), .inr rfl, 2, 0, _, rfl, rfl, rfl, fun _ _ => rfl⟩
theorem Qv (a0 : List ZZ) (r : List ZZ) (h : M.ZG a0 = some r) : Fn Tryz.prog 114 [sL 2 Zi a0] (oL 2 Zi r) := by
 unfold M.ZG at h
 obtain ⟨hc, h1⟩ := ZP h
 obtain rfl := Option.some.inj h1
 refine W6 Tryz.func114 rfl (by kernel_rfl) (Jb ?_)
 refine Za (rg0 [0] 0 ⟨8, [(0, sL 2 Zi a0)], []⟩ ?_)
 refine Zb (Za (Za (rg0 [0, 4] 0 ⟨8, [(0, sL 2 Zi a0), (4, .nilq a0.length)], []⟩ ?_)))
 refine Zb (nq a0.length (fun hz => ?_) ?_)
 refine Za (rg0 [2] 0 ⟨8, [(2, .sl true 2 0 (fun _ => []))], []⟩ ?_)
 refine Zb (Zs (Xk ?_))
 obtain rfl := List.eq_nil_of_length_eq_zero hz
 exact ⟨_, VZ (wd := 2) (f := fun _ => []) 2 (by kernel_rfl) 2 (fun i => Zi (([] : List ZZ).getD i default)), .inr rfl, 2, 0, _, rfl, rfl, rfl, fun _ _ => rfl⟩
 refine Zf (Zb (Za (rgc [2] 1 ⟨8, [(2, .asl 0 0 (0 + a0.length))], [.arr 2 (0 + a0.length) (app (fun i => List.take 2 (List.drop (i * 2) [])) 0 (fun i => Zi (a0.getD i default)))]⟩ [decide (0 = 0) || decide (0 < a0.length), decide ((0 + a0.length) * 40 ≤ 140737488355328)] hc ?_)))
 refine Zb (Zs ?_)
 exact ⟨⟨8, [(2, .asl 0 0 a0.length)], [aL 2 Zi a0]⟩, Y5 (.cons (Qk (Nat.zero_add _)) .nil) (.cons (.arr (Nat.zero_add _) (QQ Zi _ a0 _ (fun _ _ => rfl))) .nil), .inr rfl, 2, 0, _, rfl, rfl, rfl, fun _ _ => rfl⟩
theorem QY (a0 : List Xu) (r : List Xu) (h : M.ZN a0 = some r) : Fn Tryz.prog 116 [sL 2 Zx a0] (oL 2 Zx r) := by
 unfold M.ZN at h
 obtain ⟨hc, h1⟩ := ZP h
 obtain rfl := Option.some.inj h1
 refine W6 Tryz.func116 rfl (by kernel_rfl) (Jb ?_)
 refine Za (rg0 [0] 0 ⟨8, [(0, sL 2 Zx a0)], []⟩ ?_)
 refine Zb (Za (Za (rg0 [0, 4] 0 ⟨8, [(0, sL 2 Zx a0), (4, .nilq a0.length)], []⟩ ?_)))
 refine Zb (nq a0.length (fun hz => ?_) ?_)
 refine Za (rg0 [2] 0 ⟨8, [(2, .sl true 2 0 (fun _ => []))], []⟩ ?_)
 refine Zb (Zs (Xk ?_))
 obtain rfl := List.eq_nil_of_length_eq_zero hz
 exact ⟨_, VZ (wd := 2) (f := fun _ => []) 2 (by kernel_rfl) 2 (fun i => Zx (([] : List Xu).getD i default)), .inr rfl, 2, 0, _, rfl, rfl, rfl, fun _ _ => rfl⟩
 refine Zf (Zb (Za (rgc [2] 1 ⟨8, [(2, .asl 0 0 (0 + a0.length))], [.arr 2 (0 + a0.length) (app (fun i => List.take 2 (List.drop (i * 2) [])) 0 (fun i => Zx (a0.getD i default)))]⟩ [decide (0 = 0) || decide (0 < a0.length), decide ((0 + a0.length) * 40 ≤ 140737488355328)] hc ?_)))
 refine Zb (Zs ?_)
 exact ⟨⟨8, [(2, .asl 0 0 a0.length)], [aL 2 Zx a0]⟩, Y5 (.cons (Qk (Nat.zero_add _)) .nil) (.cons (.arr (Nat.zero_add _) (QQ Zx _ a0 _ (fun _ _ => rfl))) .nil), .inr rfl, 2, 0, _, rfl, rfl, rfl, fun _ _ => rfl⟩
theorem JK (a0 : List VI) (r : List VI) (h : M.Z9 a0 = some r) : Fn Tryz.prog 118 [sL 2 XG a0] (oL 2 XG r) := by
 unfold M.Z9 at h
 obtain ⟨hc, h1⟩ := ZP h
 obtain rfl := Option.some.inj h1
 refine W6 Tryz.func118 rfl (by kernel_rfl) (Jb ?_)
 refine Za (rg0 [0] 0 ⟨8, [(0, sL 2 XG a0)], []⟩ ?_)
 refine Zb (Za (Za (rg0 [0, 4] 0 ⟨8, [(0, sL 2 XG a0), (4, .nilq a0.length)], []⟩ ?_)))
 refine Zb (nq a0.length (fun hz => ?_) ?_)
 refine Za (rg0 [2] 0 ⟨8, [(2, .sl true 2 0 (fun _ => []))], []⟩ ?_)
 refine Zb (Zs (Xk ?_))
 obtain rfl := List.eq_nil_of_length_eq_zero hz
 exact ⟨_, VZ (wd := 2) (f := fun _ => []) 2 (by kernel_rfl) 2 (fun i => XG (([] : List VI).getD i default)), .inr rfl, 2, 0, _, rfl, rfl, rfl, fun _ _ => rfl⟩
 refine Zf (Zb (Za (rgc [2] 1 ⟨8, [(2, .asl 0 0 (0 + a0.length))], [.arr 2 (0 + a0.length) (app (fun i => List.take 2 (List.drop (i * 2) [])) 0 (fun i => XG (a0.getD i default)))]⟩ [decide (0 = 0) || decide (0 < a0.length), decide ((0 + a0.length) * 40 ≤ 140737488355328)] hc ?_)))
 refine Zb (Zs ?_)
 exact ⟨⟨8, [(2, .asl 0 0 a0.length)], [aL 2 XG a0]⟩, Y5 (.cons (Qk (Nat.zero_add _)) .nil) (.cons (.arr (Nat.zero_add _) (QQ XG _ a0 _ (fun _ _ => rfl))) .nil), .inr rfl, 2, 0, _, rfl, rfl, rfl, fun _ _ => rfl⟩
theorem Qp (a0 : List Yf) (r : List Yf) (h : M.ZD a0 = some r) : Fn Tryz.prog 120 [sL 9 ZB a0] (.pure (sL 9 ZB r)) := by
 unfold M.ZD at h
 obtain ⟨hc, h1⟩ := ZP h
 obtain rfl := Option.some.inj h1
 refine ZR Tryz.func120 rfl (by kernel_rfl) (Za (zg [0] 0 (Zb (Za (Za (zg [0, 4] 0 (Zb (nq a0.length (fun hz => ?_) ?_))))))))
 exact Za (zg [2] 0 (Zb (Zs (Xk (er (.sl false 9 0 (fun _ => [])) (JF hz))))))
 exact Zf (Zb (Za (zc [2] 1 hc (Zb (Zs (er (.sl false 9 (0 + a0.length) (fun i => (app (fun i => List.take 9 (List.drop (i * 9) [])) 0 (fun i => ZB (a0.getD i default))) (0 + i))) (J2 (Nat.zero_add _) (fun i hi => by rw [Nat.zero_add]; exact QQ ZB _ a0 _ (fun _ _ => rfl) i hi))))))))
theorem Qq (a0 : List Yg) (r : List Yg) (h : M.ZE a0 = some r) : Fn Tryz.prog 121 [sL 7 ZF a0] (.pure (sL 7 ZF r)) := by
 unfold M.ZE at h
 obtain ⟨hc, h1⟩ := ZP h
 obtain rfl := Option.some.inj h1
 refine ZR Tryz.func121 rfl (by kernel_rfl) (Za (zg [0] 0 (Zb (Za (Za (zg [0, 4] 0 (Zb (nq a0.length (fun hz => ?_) ?_))))))))
 exact Za (zg [2] 0 (Zb (Zs (Xk (er (.sl false 7 0 (fun _ => [])) (JF hz))))))
 exact Zf (Zb (Za (zc [2] 1 hc (Zb (Zs (er (.sl false 7 (0 + a0.length) (fun i => (app (fun i => List.take 7 (List.drop (i * 7) [])) 0 (fun i => ZF (a0.getD i default))) (0 + i))) (J2 (Nat.zero_add _) (fun i hi => by rw [Nat.zero_add]; exact QQ ZF _ a0 _ (fun _ _ => rfl) i hi))))))))
theorem QJ (a0 : List YR) (r : List YR) (h : M.ZI a0 = some r) : Fn Tryz.prog 122 [sL 3 ZT a0] (.pure (sL 3 ZT r)) := by
 unfold M.ZI at h
 obtain ⟨hc, h1⟩ := ZP h
 obtain rfl := Option.some.inj h1
 refine ZR Tryz.func122 rfl (by kernel_rfl) (Za (zg [0] 0 (Zb (Za (Za (zg [0, 4] 0 (Zb (nq a0.length (fun hz => ?_) ?_))))))))
 exact Za (zg [2] 0 (Zb (Zs (Xk (er (.sl false 3 0 (fun _ => [])) (JF hz))))))
 exact Zf (Zb (Za (zc [2] 1 hc (Zb (Zs (er (.sl false 3 (0 + a0.length) (fun i => (app (fun i => List.take 3 (List.drop (i * 3) [])) 0 (fun i => ZT (a0.getD i default))) (0 + i))) (J2 (Nat.zero_add _) (fun i hi => by rw [Nat.zero_add]; exact QQ ZT _ a0 _ (fun _ _ => rfl) i hi))))))))
theorem Yk (a0 : List YN) (r : List YN) (h : M.Zz a0 = some r) : Fn Tryz.prog 123 [sL 5 Zm a0] (.pure (sL 5 Zm r)) := by
 unfold M.Zz at h
 obtain ⟨hc, h1⟩ := ZP h
 obtain rfl := Option.some.inj h1
 refine ZR Tryz.func123 rfl (by kernel_rfl) (Za (zg [0] 0 (Zb (Za (Za (zg [0, 4] 0 (Zb (nq a0.length (fun hz => ?_) ?_))))))))
 exact Za (zg [2] 0 (Zb (Zs (Xk (er (.sl false 5 0 (fun _ => [])) (JF hz))))))
 exact Zf (Zb (Za (zc [2] 1 hc (Zb (Zs (er (.sl false 5 (0 + a0.length) (fun i => (app (fun i => List.take 5 (List.drop (i * 5) [])) 0 (fun i => Zm (a0.getD i default))) (0 + i))) (J2 (Nat.zero_add _) (fun i hi => by rw [Nat.zero_add]; exact QQ Zm _ a0 _ (fun _ _ => rfl) i hi))))))))
theorem Q0 (a0 : List Qe) (r : List Qe) (h : M.ZO a0 = some r) : Fn Tryz.prog 124 [sL 4 Z0 a0] (.pure (sL 4 Z0 r)) := by
 unfold M.ZO at h
 obtain ⟨hc, h1⟩ := ZP h
 obtain rfl := Option.some.inj h1
 refine ZR Tryz.func124 rfl (by kernel_rfl) (Za (zg [0] 0 (Zb (Za (Za (zg [0, 4] 0 (Zb (nq a0.length (fun hz => ?_) ?_))))))))
 exact Za (zg [2] 0 (Zb (Zs (Xk (er (.sl false 4 0 (fun _ => [])) (JF hz))))))
 exact Zf (Zb (Za (zc [2] 1 hc (Zb (Zs (er (.sl false 4 (0 + a0.length) (fun i => (app (fun i => List.take 4 (List.drop (i * 4) [])) 0 (fun i => Z0 (a0.getD i default))) (0 + i))) (J2 (Nat.zero_add _) (fun i hi => by rw [Nat.zero_add]; exact QQ Z0 _ a0 _ (fun _ _ => rfl) i hi))))))))
theorem Jj (a0 : List Z4) (r : List Z4) (h : M.ZX a0 = some r) : Fn Tryz.prog 125 [sL 2 ZY a0] (.pure (sL 2 ZY r)) := by
 unfold M.ZX at h
 obtain ⟨hc, h1⟩ := ZP h
 obtain rfl := Option.some.inj h1
 refine ZR Tryz.func125 rfl (by kernel_rfl) (Za (zg [0] 0 (Zb (Za (Za (zg [0, 4] 0 (Zb (nq a0.length (fun hz => ?_) ?_))))))))
 exact Za (zg [2] 0 (Zb (Zs (Xk (er (.sl false 2 0 (fun _ => [])) (JF hz))))))
 exact Zf (Zb (Za (zc [2] 1 hc (Zb (Zs (er (.sl false 2 (0 + a0.length) (fun i => (app (fun i => List.take 2 (List.drop (i * 2) [])) 0 (fun i => ZY (a0.getD i default))) (0 + i))) (J2 (Nat.zero_add _) (fun i hi => by rw [Nat.zero_add]; exact QQ ZY _ a0 _ (fun _ _ => rfl) i hi))))))))
theorem QL (a0 : List YS) (r : List YS) (h : M.ZJ a0 = some r) : Fn Tryz.prog 126 [sL 3 ZU a0] (.pure (sL 3 ZU r)) := by
 unfold M.ZJ at h
 obtain ⟨hc, h1⟩ := ZP h
 obtain rfl := Option.some.inj h1
 refine ZR Tryz.func126 rfl (by kernel_rfl) (Za (zg [0] 0 (Zb (Za (Za (zg [0, 4] 0 (Zb (nq a0.length (fun hz => ?_) ?_))))))))
 exact Za (zg [2] 0 (Zb (Zs (Xk (er (.sl false 3 0 (fun _ => [])) (JF hz))))))
 exact Zf (Zb (Za (zc [2] 1 hc (Zb (Zs (er (.sl false 3 (0 + a0.length) (fun i => (app (fun i => List.take 3 (List.drop (i * 3) [])) 0 (fun i => ZU (a0.getD i default))) (0 + i))) (J2 (Nat.zero_add _) (fun i hi => by rw [Nat.zero_add]; exact QQ ZU _ a0 _ (fun _ _ => rfl) i hi))))))))
theorem QM (a0 : List YT) (r : List YT) (h : M.ZK a0 = some r) : Fn Tryz.prog 127 [sL 5 ZV a0] (.pure (sL 5 ZV r)) := by
 unfold M.ZK at h
 obtain ⟨hc, h1⟩ := ZP h
 obtain rfl := Option.some.inj h1
 refine ZR Tryz.func127 rfl (by kernel_rfl) (Za (zg [0] 0 (Zb (Za (Za (zg [0, 4] 0 (Zb (nq a0.length (fun hz => ?_) ?_))))))))
 exact Za (zg [2] 0 (Zb (Zs (Xk (er (.sl false 5 0 (fun _ => [])) (JF hz))))))
 exact Zf (Zb (Za (zc [2] 1 hc (Zb (Zs (er (.sl false 5 (0 + a0.length) (fun i => (app (fun i => List.take 5 (List.drop (i * 5) [])) 0 (fun i => ZV (a0.getD i default))) (0 + i))) (J2 (Nat.zero_add _) (fun i hi => by rw [Nat.zero_add]; exact QQ ZV _ a0 _ (fun _ _ => rfl) i hi))))))))
theorem Ui (a0 : Zg) (r : Zg) (h : M.YF a0 = some r) : Fn Tryz.prog 69 [.agg (Zv a0)] (.pure (.agg (Zv r))) := by
 let u1 : List (Nat × D) := [(1, .ref 0 0), (2, .ref 1 0)]
 unfold M.YF at h
 refine ZR Tryz.func69 rfl (by kernel_rfl) (Za (zg [1, 2] 2 (Zb (Za ?_))))
 obtain ⟨r1, q1, h2⟩ := bind_some h
 refine rg [oL 12 Zd r1] [1, 2] 3 ⟨136, u1, [.box [.str a0.XT, .int .i64 a0.WL, .asl 2 0 r1.length, sL 2 Zi a0.JQ, sL 2 Zx a0.Jp, sL 2 XG a0.Qw, sL 9 ZB a0.Jd, sL 7 ZF a0.Xl, .bool a0.Yt.Qc, .int .i64 a0.Yt.Z6, sL 3 ZT a0.Yt.XX, sL 5 Zm a0.Yt.Zw, .bool a0.XV.Qc, .int .i64 a0.XV.Z6, .str a0.XV.Vp, .str a0.XV.Ql, sL 5 Zm a0.XV.Zw, .bool a0.Xc.Qc, .int .i64 a0.Xc.Xe, .int .i64 a0.Xc.Xf, sL 4 Z0 a0.Xc.Xb, sL 2 ZY a0.Xc.Xh, sL 3 ZU a0.Xc.Z2, sL 5 ZV a0.Xc.Z3, sL 5 Zm a0.Xc.Zw], .box [.str (⟨#[]⟩ : ByteArray), .int .i64 0, .sl true 12 0 (fun _ => []), .sl true 2 0 (fun _ => []), .sl true 2 0 (fun _ => []), .sl true 2 0 (fun _ => []), .sl true 9 0 (fun _ => []), .sl true 7 0 (fun _ => []), .bool false, .int .i64 0, .sl true 3 0 (fun _ => []), .sl true 5 0 (fun _ => []), .bool false, .int .i64 0, .str (⟨#[]⟩ : ByteArray), .str (⟨#[]⟩ : ByteArray), .sl true 5 0 (fun _ => []), .bool false, .int .i64 0, .int .i64 0, .sl true 4 0 (fun _ => []), .sl true 2 0 (fun _ => []), .sl true 3 0 (fun _ => []), .sl true 5 0 (fun _ => []), .sl true 5 0 (fun _ => [])], aL 12 Zd r1]⟩ [] [⟨true, 113, [sL 12 Zd a0.Zc], oL 12 Zd r1⟩] ZA ⟨fun _ => QI a0.Zc r1 q1, trivial⟩ (Zb (Za ?_))
 obtain ⟨r2, q3, h4⟩ := bind_some h2
 refine rg [oL 2 Zi r2] [1, 2] 4 ⟨136, u1, [.box [.str a0.XT, .int .i64 a0.WL, .asl 2 0 r1.length, .asl 3 0 r2.length, sL 2 Zx a0.Jp, sL 2 XG a0.Qw, sL 9 ZB a0.Jd, sL 7 ZF a0.Xl, .bool a0.Yt.Qc, .int .i64 a0.Yt.Z6, sL 3 ZT a0.Yt.XX, sL 5 Zm a0.Yt.Zw, .bool a0.XV.Qc, .int .i64 a0.XV.Z6, .str a0.XV.Vp, .str a0.XV.Ql, sL 5 Zm a0.XV.Zw, .bool a0.Xc.Qc, .int .i64 a0.Xc.Xe, .int .i64 a0.Xc.Xf, sL 4 Z0 a0.Xc.Xb, sL 2 ZY a0.Xc.Xh, sL 3 ZU a0.Xc.Z2, sL 5 ZV a0.Xc.Z3, sL 5 Zm a0.Xc.Zw], .box [.str (⟨#[]⟩ : ByteArray), .int .i64 0, .sl true 12 0 (fun _ => []), .sl true 2 0 (fun _ => []), .sl true 2 0 (fun _ => []), .sl true 2 0 (fun _ => []), .sl true 9 0 (fun _ => []), .sl true 7 0 (fun _ => []), .bool false, .int .i64 0, .sl true 3 0 (fun _ => []), .sl true 5 0 (fun _ => []), .bool false, .int .i64 0, .str (⟨#[]⟩ : ByteArray), .str (⟨#[]⟩ : ByteArray), .sl true 5 0 (fun _ => []), .bool false, .int .i64 0, .int .i64 0, .sl true 4 0 (fun _ => []), .sl true 2 0 (fun _ => []), .sl true 3 0 (fun _ => []), .sl true 5 0 (fun _ => []), .sl true 5 0 (fun _ => [])], aL 12 Zd r1, aL 2 Zi r2]⟩ [] [⟨true, 114, [sL 2 Zi a0.JQ], oL 2 Zi r2⟩] ZA ⟨fun _ => Qv a0.JQ r2 q3, trivial⟩ (Zb (Za (Za (zg [1, 2, 16, 17] 4 (Zb (Zt ?_))))))
 obtain ⟨y5, q9, h10⟩ := bind_some h4
 refine zl (fun (p3 : Int) => ⟨136, [(1, .ref 0 0), (2, .ref 1 0), (16, .int .i64 (r2.length : Int)), (17, .int .i64 p3)], [.box [.str a0.XT, .int .i64 a0.WL, .asl 2 0 r1.length, .asl 3 0 r2.length, sL 2 Zx a0.Jp, sL 2 XG a0.Qw, sL 9 ZB a0.Jd, sL 7 ZF a0.Xl, .bool a0.Yt.Qc, .int .i64 a0.Yt.Z6, sL 3 ZT a0.Yt.XX, sL 5 Zm a0.Yt.Zw, .bool a0.XV.Qc, .int .i64 a0.XV.Z6, .str a0.XV.Vp, .str a0.XV.Ql, sL 5 Zm a0.XV.Zw, .bool a0.Xc.Qc, .int .i64 a0.Xc.Xe, .int .i64 a0.Xc.Xf, sL 4 Z0 a0.Xc.Xb, sL 2 ZY a0.Xc.Xh, sL 3 ZU a0.Xc.Z2, sL 5 ZV a0.Xc.Z3, sL 5 Zm a0.Xc.Zw], .box [.str (⟨#[]⟩ : ByteArray), .int .i64 0, .sl true 12 0 (fun _ => []), .sl true 2 0 (fun _ => []), .sl true 2 0 (fun _ => []), .sl true 2 0 (fun _ => []), .sl true 9 0 (fun _ => []), .sl true 7 0 (fun _ => []), .bool false, .int .i64 0, .sl true 3 0 (fun _ => []), .sl true 5 0 (fun _ => []), .bool false, .int .i64 0, .str (⟨#[]⟩ : ByteArray), .str (⟨#[]⟩ : ByteArray), .sl true 5 0 (fun _ => []), .bool false, .int .i64 0, .int .i64 0, .sl true 4 0 (fun _ => []), .sl true 2 0 (fun _ => []), .sl true 3 0 (fun _ => []), .sl true 5 0 (fun _ => []), .sl true 5 0 (fun _ => [])], aL 12 Zd r1, aL 2 Zi r2]⟩) (fun z => OutE 0 (fun z => ⟨136, u1, [.box [.str a0.XT, .int .i64 a0.WL, .asl 2 0 r1.length, .asl 3 0 r2.length, sL 2 Zx a0.Jp, sL 2 XG a0.Qw, sL 9 ZB a0.Jd, sL 7 ZF a0.Xl, .bool a0.Yt.Qc, .int .i64 a0.Yt.Z6, sL 3 ZT a0.Yt.XX, sL 5 Zm a0.Yt.Zw, .bool a0.XV.Qc, .int .i64 a0.XV.Z6, .str a0.XV.Vp, .str a0.XV.Ql, sL 5 Zm a0.XV.Zw, .bool a0.Xc.Qc, .int .i64 a0.Xc.Xe, .int .i64 a0.Xc.Xf, sL 4 Z0 a0.Xc.Xb, sL 2 ZY a0.Xc.Xh, sL 3 ZU a0.Xc.Z2, sL 5 ZV a0.Xc.Z3, sL 5 Zm a0.Xc.Zw], .box [.str (⟨#[]⟩ : ByteArray), .int .i64 0, .sl true 12 0 (fun _ => []), .sl true 2 0 (fun _ => []), .sl true 2 0 (fun _ => []), .sl true 2 0 (fun _ => []), .sl true 9 0 (fun _ => []), .sl true 7 0 (fun _ => []), .bool false, .int .i64 0, .sl true 3 0 (fun _ => []), .sl true 5 0 (fun _ => []), .bool false, .int .i64 0, .str (⟨#[]⟩ : ByteArray), .str (⟨#[]⟩ : ByteArray), .sl true 5 0 (fun _ => []), .bool false, .int .i64 0, .int .i64 0, .sl true 4 0 (fun _ => []), .sl true 2 0 (fun _ => []), .sl true 3 0 (fun _ => []), .sl true 5 0 (fun _ => []), .sl true 5 0 (fun _ => [])], aL 12 Zd r1, aL 2 Zi r2]⟩) z) q9 ?_ ?_
 intro p3 y4 h5
 unfold M.Yb at h5
 refine Za (zg [1, 2, 16, 17, 18] 4 (Zb (Za (cn h5 (fun _ h7 => ?_) (fun _ h8 => ?_)))))
 refine Zf (Zb (Za (Zt (Za ?_))))
 cases h7
 exact Xi (X8 (re h8 ⟨rfl, kq⟩))
 intro e11 s12 o13
 refine zi o13 (Za (JP (s' := ⟨136, u1, [.box [.str a0.XT, .int .i64 a0.WL, .sl false 12 r1.length (fun k => (fun i => Zd (r1.getD i default)) (0 + k)), .sl false 2 r2.length (fun k => (fun i => Zi (r2.getD i default)) (0 + k)), sL 2 Zx a0.Jp, sL 2 XG a0.Qw, sL 9 ZB a0.Jd, sL 7 ZF a0.Xl, .bool a0.Yt.Qc, .int .i64 a0.Yt.Z6, sL 3 ZT a0.Yt.XX, sL 5 Zm a0.Yt.Zw, .bool a0.XV.Qc, .int .i64 a0.XV.Z6, .str a0.XV.Vp, .str a0.XV.Ql, sL 5 Zm a0.XV.Zw, .bool a0.Xc.Qc, .int .i64 a0.Xc.Xe, .int .i64 a0.Xc.Xf, sL 4 Z0 a0.Xc.Xb, sL 2 ZY a0.Xc.Xh, sL 3 ZU a0.Xc.Z2, sL 5 ZV a0.Xc.Z3, sL 5 Zm a0.Xc.Zw], .box [.str (⟨#[]⟩ : ByteArray), .int .i64 0, .sl true 12 0 (fun _ => []), .sl true 2 0 (fun _ => []), .sl true 2 0 (fun _ => []), .sl true 2 0 (fun _ => []), .sl true 9 0 (fun _ => []), .sl true 7 0 (fun _ => []), .bool false, .int .i64 0, .sl true 3 0 (fun _ => []), .sl true 5 0 (fun _ => []), .bool false, .int .i64 0, .str (⟨#[]⟩ : ByteArray), .str (⟨#[]⟩ : ByteArray), .sl true 5 0 (fun _ => []), .bool false, .int .i64 0, .int .i64 0, .sl true 4 0 (fun _ => []), .sl true 2 0 (fun _ => []), .sl true 3 0 (fun _ => []), .sl true 5 0 (fun _ => []), .sl true 5 0 (fun _ => [])], aL 12 Zd ([] : List Zk), aL 2 Zi ([] : List ZZ)]⟩) (Le.trans ((Le.trans (GZ (s := ⟨136, u1, [.box [.str a0.XT, .int .i64 a0.WL, .asl 2 0 r1.length, .asl 3 0 r2.length, sL 2 Zx a0.Jp, sL 2 XG a0.Qw, sL 9 ZB a0.Jd, sL 7 ZF a0.Xl, .bool a0.Yt.Qc, .int .i64 a0.Yt.Z6, sL 3 ZT a0.Yt.XX, sL 5 Zm a0.Yt.Zw, .bool a0.XV.Qc, .int .i64 a0.XV.Z6, .str a0.XV.Vp, .str a0.XV.Ql, sL 5 Zm a0.XV.Zw, .bool a0.Xc.Qc, .int .i64 a0.Xc.Xe, .int .i64 a0.Xc.Xf, sL 4 Z0 a0.Xc.Xb, sL 2 ZY a0.Xc.Xh, sL 3 ZU a0.Xc.Z2, sL 5 ZV a0.Xc.Z3, sL 5 Zm a0.Xc.Zw], .box [.str (⟨#[]⟩ : ByteArray), .int .i64 0, .sl true 12 0 (fun _ => []), .sl true 2 0 (fun _ => []), .sl true 2 0 (fun _ => []), .sl true 2 0 (fun _ => []), .sl true 9 0 (fun _ => []), .sl true 7 0 (fun _ => []), .bool false, .int .i64 0, .sl true 3 0 (fun _ => []), .sl true 5 0 (fun _ => []), .bool false, .int .i64 0, .str (⟨#[]⟩ : ByteArray), .str (⟨#[]⟩ : ByteArray), .sl true 5 0 (fun _ => []), .bool false, .int .i64 0, .int .i64 0, .sl true 4 0 (fun _ => []), .sl true 2 0 (fun _ => []), .sl true 3 0 (fun _ => []), .sl true 5 0 (fun _ => []), .sl true 5 0 (fun _ => [])], aL 12 Zd r1, aL 2 Zi r2]⟩) (s' := ⟨136, u1, [.box [.str a0.XT, .int .i64 a0.WL, .sl false 12 r1.length (fun k => (fun i => Zd (r1.getD i default)) (0 + k)), .asl 3 0 r2.length, sL 2 Zx a0.Jp, sL 2 XG a0.Qw, sL 9 ZB a0.Jd, sL 7 ZF a0.Xl, .bool a0.Yt.Qc, .int .i64 a0.Yt.Z6, sL 3 ZT a0.Yt.XX, sL 5 Zm a0.Yt.Zw, .bool a0.XV.Qc, .int .i64 a0.XV.Z6, .str a0.XV.Vp, .str a0.XV.Ql, sL 5 Zm a0.XV.Zw, .bool a0.Xc.Qc, .int .i64 a0.Xc.Xe, .int .i64 a0.Xc.Xf, sL 4 Z0 a0.Xc.Xb, sL 2 ZY a0.Xc.Xh, sL 3 ZU a0.Xc.Z2, sL 5 ZV a0.Xc.Z3, sL 5 Zm a0.Xc.Zw], .box [.str (⟨#[]⟩ : ByteArray), .int .i64 0, .sl true 12 0 (fun _ => []), .sl true 2 0 (fun _ => []), .sl true 2 0 (fun _ => []), .sl true 2 0 (fun _ => []), .sl true 9 0 (fun _ => []), .sl true 7 0 (fun _ => []), .bool false, .int .i64 0, .sl true 3 0 (fun _ => []), .sl true 5 0 (fun _ => []), .bool false, .int .i64 0, .str (⟨#[]⟩ : ByteArray), .str (⟨#[]⟩ : ByteArray), .sl true 5 0 (fun _ => []), .bool false, .int .i64 0, .int .i64 0, .sl true 4 0 (fun _ => []), .sl true 2 0 (fun _ => []), .sl true 3 0 (fun _ => []), .sl true 5 0 (fun _ => []), .sl true 5 0 (fun _ => [])], aL 12 Zd ([] : List Zk), aL 2 Zi r2]⟩) 2 12 r1.length (fun i => Zd (r1.getD i default)) (fun i => Zd (([] : List Zk).getD i default)) (by kernel_rfl) (by kernel_rfl) (by kernel_rfl)) (GZ (s := ⟨136, u1, [.box [.str a0.XT, .int .i64 a0.WL, .sl false 12 r1.length (fun k => (fun i => Zd (r1.getD i default)) (0 + k)), .asl 3 0 r2.length, sL 2 Zx a0.Jp, sL 2 XG a0.Qw, sL 9 ZB a0.Jd, sL 7 ZF a0.Xl, .bool a0.Yt.Qc, .int .i64 a0.Yt.Z6, sL 3 ZT a0.Yt.XX, sL 5 Zm a0.Yt.Zw, .bool a0.XV.Qc, .int .i64 a0.XV.Z6, .str a0.XV.Vp, .str a0.XV.Ql, sL 5 Zm a0.XV.Zw, .bool a0.Xc.Qc, .int .i64 a0.Xc.Xe, .int .i64 a0.Xc.Xf, sL 4 Z0 a0.Xc.Xb, sL 2 ZY a0.Xc.Xh, sL 3 ZU a0.Xc.Z2, sL 5 ZV a0.Xc.Z3, sL 5 Zm a0.Xc.Zw], .box [.str (⟨#[]⟩ : ByteArray), .int .i64 0, .sl true 12 0 (fun _ => []), .sl true 2 0 (fun _ => []), .sl true 2 0 (fun _ => []), .sl true 2 0 (fun _ => []), .sl true 9 0 (fun _ => []), .sl true 7 0 (fun _ => []), .bool false, .int .i64 0, .sl true 3 0 (fun _ => []), .sl true 5 0 (fun _ => []), .bool false, .int .i64 0, .str (⟨#[]⟩ : ByteArray), .str (⟨#[]⟩ : ByteArray), .sl true 5 0 (fun _ => []), .bool false, .int .i64 0, .int .i64 0, .sl true 4 0 (fun _ => []), .sl true 2 0 (fun _ => []), .sl true 3 0 (fun _ => []), .sl true 5 0 (fun _ => []), .sl true 5 0 (fun _ => [])], aL 12 Zd ([] : List Zk), aL 2 Zi r2]⟩) (s' := ⟨136, u1, [.box [.str a0.XT, .int .i64 a0.WL, .sl false 12 r1.length (fun k => (fun i => Zd (r1.getD i default)) (0 + k)), .sl false 2 r2.length (fun k => (fun i => Zi (r2.getD i default)) (0 + k)), sL 2 Zx a0.Jp, sL 2 XG a0.Qw, sL 9 ZB a0.Jd, sL 7 ZF a0.Xl, .bool a0.Yt.Qc, .int .i64 a0.Yt.Z6, sL 3 ZT a0.Yt.XX, sL 5 Zm a0.Yt.Zw, .bool a0.XV.Qc, .int .i64 a0.XV.Z6, .str a0.XV.Vp, .str a0.XV.Ql, sL 5 Zm a0.XV.Zw, .bool a0.Xc.Qc, .int .i64 a0.Xc.Xe, .int .i64 a0.Xc.Xf, sL 4 Z0 a0.Xc.Xb, sL 2 ZY a0.Xc.Xh, sL 3 ZU a0.Xc.Z2, sL 5 ZV a0.Xc.Z3, sL 5 Zm a0.Xc.Zw], .box [.str (⟨#[]⟩ : ByteArray), .int .i64 0, .sl true 12 0 (fun _ => []), .sl true 2 0 (fun _ => []), .sl true 2 0 (fun _ => []), .sl true 2 0 (fun _ => []), .sl true 9 0 (fun _ => []), .sl true 7 0 (fun _ => []), .bool false, .int .i64 0, .sl true 3 0 (fun _ => []), .sl true 5 0 (fun _ => []), .bool false, .int .i64 0, .str (⟨#[]⟩ : ByteArray), .str (⟨#[]⟩ : ByteArray), .sl true 5 0 (fun _ => []), .bool false, .int .i64 0, .int .i64 0, .sl true 4 0 (fun _ => []), .sl true 2 0 (fun _ => []), .sl true 3 0 (fun _ => []), .sl true 5 0 (fun _ => []), .sl true 5 0 (fun _ => [])], aL 12 Zd ([] : List Zk), aL 2 Zi ([] : List ZZ)]⟩) 3 2 r2.length (fun i => Zi (r2.getD i default)) (fun i => Zi (([] : List ZZ).getD i default)) (by kernel_rfl) (by kernel_rfl) (by kernel_rfl)))) (kp [1, 2])) ?_))
 obtain ⟨r6, q15, h16⟩ := bind_some h10
 refine rg [oL 2 Zx r6] [1, 2] 5 ⟨136, u1, [.box [.str a0.XT, .int .i64 a0.WL, .sl false 12 r1.length (fun k => (fun i => Zd (r1.getD i default)) (0 + k)), .sl false 2 r2.length (fun k => (fun i => Zi (r2.getD i default)) (0 + k)), .asl 4 0 r6.length, sL 2 XG a0.Qw, sL 9 ZB a0.Jd, sL 7 ZF a0.Xl, .bool a0.Yt.Qc, .int .i64 a0.Yt.Z6, sL 3 ZT a0.Yt.XX, sL 5 Zm a0.Yt.Zw, .bool a0.XV.Qc, .int .i64 a0.XV.Z6, .str a0.XV.Vp, .str a0.XV.Ql, sL 5 Zm a0.XV.Zw, .bool a0.Xc.Qc, .int .i64 a0.Xc.Xe, .int .i64 a0.Xc.Xf, sL 4 Z0 a0.Xc.Xb, sL 2 ZY a0.Xc.Xh, sL 3 ZU a0.Xc.Z2, sL 5 ZV a0.Xc.Z3, sL 5 Zm a0.Xc.Zw], .box [.str (⟨#[]⟩ : ByteArray), .int .i64 0, .sl true 12 0 (fun _ => []), .sl true 2 0 (fun _ => []), .sl true 2 0 (fun _ => []), .sl true 2 0 (fun _ => []), .sl true 9 0 (fun _ => []), .sl true 7 0 (fun _ => []), .bool false, .int .i64 0, .sl true 3 0 (fun _ => []), .sl true 5 0 (fun _ => []), .bool false, .int .i64 0, .str (⟨#[]⟩ : ByteArray), .str (⟨#[]⟩ : ByteArray), .sl true 5 0 (fun _ => []), .bool false, .int .i64 0, .int .i64 0, .sl true 4 0 (fun _ => []), .sl true 2 0 (fun _ => []), .sl true 3 0 (fun _ => []), .sl true 5 0 (fun _ => []), .sl true 5 0 (fun _ => [])], aL 12 Zd ([] : List Zk), aL 2 Zi ([] : List ZZ), aL 2 Zx r6]⟩ [] [⟨true, 116, [sL 2 Zx a0.Jp], oL 2 Zx r6⟩] ZA ⟨fun _ => QY a0.Jp r6 q15, trivial⟩ (Yy (s' := ⟨136, u1, [.box [.str a0.XT, .int .i64 a0.WL, sL 12 Zd r1, sL 2 Zi r2, .asl 4 0 r6.length, sL 2 XG a0.Qw, sL 9 ZB a0.Jd, sL 7 ZF a0.Xl, .bool a0.Yt.Qc, .int .i64 a0.Yt.Z6, sL 3 ZT a0.Yt.XX, sL 5 Zm a0.Yt.Zw, .bool a0.XV.Qc, .int .i64 a0.XV.Z6, .str a0.XV.Vp, .str a0.XV.Ql, sL 5 Zm a0.XV.Zw, .bool a0.Xc.Qc, .int .i64 a0.Xc.Xe, .int .i64 a0.Xc.Xf, sL 4 Z0 a0.Xc.Xb, sL 2 ZY a0.Xc.Xh, sL 3 ZU a0.Xc.Z2, sL 5 ZV a0.Xc.Z3, sL 5 Zm a0.Xc.Zw], .box [.str (⟨#[]⟩ : ByteArray), .int .i64 0, .sl true 12 0 (fun _ => []), .sl true 2 0 (fun _ => []), .sl true 2 0 (fun _ => []), .sl true 2 0 (fun _ => []), .sl true 9 0 (fun _ => []), .sl true 7 0 (fun _ => []), .bool false, .int .i64 0, .sl true 3 0 (fun _ => []), .sl true 5 0 (fun _ => []), .bool false, .int .i64 0, .str (⟨#[]⟩ : ByteArray), .str (⟨#[]⟩ : ByteArray), .sl true 5 0 (fun _ => []), .bool false, .int .i64 0, .int .i64 0, .sl true 4 0 (fun _ => []), .sl true 2 0 (fun _ => []), .sl true 3 0 (fun _ => []), .sl true 5 0 (fun _ => []), .sl true 5 0 (fun _ => [])], aL 12 Zd ([] : List Zk), aL 2 Zi ([] : List ZZ), aL 2 Zx r6]⟩) (Y5 (.cons Sub.rfl (.cons Sub.rfl .nil)) (.cons (.box (.cons CSub.rfl (.cons CSub.rfl (.cons (VY rfl (Uy (f := fun i => Zd (r1.getD i default)) (fun _ _ => rfl))) (.cons (VY rfl (Uy (f := fun i => Zi (r2.getD i default)) (fun _ _ => rfl))) (.cons CSub.rfl (.cons CSub.rfl (.cons CSub.rfl (.cons CSub.rfl (.cons CSub.rfl (.cons CSub.rfl (.cons CSub.rfl (.cons CSub.rfl (.cons CSub.rfl (.cons CSub.rfl (.cons CSub.rfl (.cons CSub.rfl (.cons CSub.rfl (.cons CSub.rfl (.cons CSub.rfl (.cons CSub.rfl (.cons CSub.rfl (.cons CSub.rfl (.cons CSub.rfl (.cons CSub.rfl (.cons CSub.rfl .nil)))))))))))))))))))))))))) (.cons .rfl (.cons .rfl (.cons .rfl (.cons .rfl .nil)))))) (Za (Za (zg [1, 2, 39, 40] 5 (Zb (Zt ?_))))))
 obtain ⟨y9, q21, h22⟩ := bind_some h16
 refine zl (fun (p7 : Int) => ⟨136, [(1, .ref 0 0), (2, .ref 1 0), (39, .int .i64 (r6.length : Int)), (40, .int .i64 p7)], [.box [.str a0.XT, .int .i64 a0.WL, sL 12 Zd r1, sL 2 Zi r2, .asl 4 0 r6.length, sL 2 XG a0.Qw, sL 9 ZB a0.Jd, sL 7 ZF a0.Xl, .bool a0.Yt.Qc, .int .i64 a0.Yt.Z6, sL 3 ZT a0.Yt.XX, sL 5 Zm a0.Yt.Zw, .bool a0.XV.Qc, .int .i64 a0.XV.Z6, .str a0.XV.Vp, .str a0.XV.Ql, sL 5 Zm a0.XV.Zw, .bool a0.Xc.Qc, .int .i64 a0.Xc.Xe, .int .i64 a0.Xc.Xf, sL 4 Z0 a0.Xc.Xb, sL 2 ZY a0.Xc.Xh, sL 3 ZU a0.Xc.Z2, sL 5 ZV a0.Xc.Z3, sL 5 Zm a0.Xc.Zw], .box [.str (⟨#[]⟩ : ByteArray), .int .i64 0, .sl true 12 0 (fun _ => []), .sl true 2 0 (fun _ => []), .sl true 2 0 (fun _ => []), .sl true 2 0 (fun _ => []), .sl true 9 0 (fun _ => []), .sl true 7 0 (fun _ => []), .bool false, .int .i64 0, .sl true 3 0 (fun _ => []), .sl true 5 0 (fun _ => []), .bool false, .int .i64 0, .str (⟨#[]⟩ : ByteArray), .str (⟨#[]⟩ : ByteArray), .sl true 5 0 (fun _ => []), .bool false, .int .i64 0, .int .i64 0, .sl true 4 0 (fun _ => []), .sl true 2 0 (fun _ => []), .sl true 3 0 (fun _ => []), .sl true 5 0 (fun _ => []), .sl true 5 0 (fun _ => [])], aL 12 Zd ([] : List Zk), aL 2 Zi ([] : List ZZ), aL 2 Zx r6]⟩) (fun z => OutE 2 (fun z => ⟨136, u1, [.box [.str a0.XT, .int .i64 a0.WL, sL 12 Zd r1, sL 2 Zi r2, .asl 4 0 r6.length, sL 2 XG a0.Qw, sL 9 ZB a0.Jd, sL 7 ZF a0.Xl, .bool a0.Yt.Qc, .int .i64 a0.Yt.Z6, sL 3 ZT a0.Yt.XX, sL 5 Zm a0.Yt.Zw, .bool a0.XV.Qc, .int .i64 a0.XV.Z6, .str a0.XV.Vp, .str a0.XV.Ql, sL 5 Zm a0.XV.Zw, .bool a0.Xc.Qc, .int .i64 a0.Xc.Xe, .int .i64 a0.Xc.Xf, sL 4 Z0 a0.Xc.Xb, sL 2 ZY a0.Xc.Xh, sL 3 ZU a0.Xc.Z2, sL 5 ZV a0.Xc.Z3, sL 5 Zm a0.Xc.Zw], .box [.str (⟨#[]⟩ : ByteArray), .int .i64 0, .sl true 12 0 (fun _ => []), .sl true 2 0 (fun _ => []), .sl true 2 0 (fun _ => []), .sl true 2 0 (fun _ => []), .sl true 9 0 (fun _ => []), .sl true 7 0 (fun _ => []), .bool false, .int .i64 0, .sl true 3 0 (fun _ => []), .sl true 5 0 (fun _ => []), .bool false, .int .i64 0, .str (⟨#[]⟩ : ByteArray), .str (⟨#[]⟩ : ByteArray), .sl true 5 0 (fun _ => []), .bool false, .int .i64 0, .int .i64 0, .sl true 4 0 (fun _ => []), .sl true 2 0 (fun _ => []), .sl true 3 0 (fun _ => []), .sl true 5 0 (fun _ => []), .sl true 5 0 (fun _ => [])], aL 12 Zd ([] : List Zk), aL 2 Zi ([] : List ZZ), aL 2 Zx r6]⟩) z) q21 ?_ ?_
 intro p7 y8 h17
 unfold M.Yc at h17
 refine Za (zg [1, 2, 39, 40, 41] 5 (Zb (Za (cn h17 (fun _ h19 => ?_) (fun _ h20 => ?_)))))
 refine Zf (Zb (Za (Zt (Za ?_))))
 cases h19
 exact Xi (X8 (re h20 ⟨rfl, kq⟩))
 intro e23 s24 o25
 refine zi o25 (Za (JP (s' := ⟨136, u1, [.box [.str a0.XT, .int .i64 a0.WL, sL 12 Zd r1, sL 2 Zi r2, .sl false 2 r6.length (fun k => (fun i => Zx (r6.getD i default)) (0 + k)), sL 2 XG a0.Qw, sL 9 ZB a0.Jd, sL 7 ZF a0.Xl, .bool a0.Yt.Qc, .int .i64 a0.Yt.Z6, sL 3 ZT a0.Yt.XX, sL 5 Zm a0.Yt.Zw, .bool a0.XV.Qc, .int .i64 a0.XV.Z6, .str a0.XV.Vp, .str a0.XV.Ql, sL 5 Zm a0.XV.Zw, .bool a0.Xc.Qc, .int .i64 a0.Xc.Xe, .int .i64 a0.Xc.Xf, sL 4 Z0 a0.Xc.Xb, sL 2 ZY a0.Xc.Xh, sL 3 ZU a0.Xc.Z2, sL 5 ZV a0.Xc.Z3, sL 5 Zm a0.Xc.Zw], .box [.str (⟨#[]⟩ : ByteArray), .int .i64 0, .sl true 12 0 (fun _ => []), .sl true 2 0 (fun _ => []), .sl true 2 0 (fun _ => []), .sl true 2 0 (fun _ => []), .sl true 9 0 (fun _ => []), .sl true 7 0 (fun _ => []), .bool false, .int .i64 0, .sl true 3 0 (fun _ => []), .sl true 5 0 (fun _ => []), .bool false, .int .i64 0, .str (⟨#[]⟩ : ByteArray), .str (⟨#[]⟩ : ByteArray), .sl true 5 0 (fun _ => []), .bool false, .int .i64 0, .int .i64 0, .sl true 4 0 (fun _ => []), .sl true 2 0 (fun _ => []), .sl true 3 0 (fun _ => []), .sl true 5 0 (fun _ => []), .sl true 5 0 (fun _ => [])], aL 12 Zd ([] : List Zk), aL 2 Zi ([] : List ZZ), aL 2 Zx ([] : List Xu)]⟩) (Le.trans ((GZ (s := ⟨136, u1, [.box [.str a0.XT, .int .i64 a0.WL, sL 12 Zd r1, sL 2 Zi r2, .asl 4 0 r6.length, sL 2 XG a0.Qw, sL 9 ZB a0.Jd, sL 7 ZF a0.Xl, .bool a0.Yt.Qc, .int .i64 a0.Yt.Z6, sL 3 ZT a0.Yt.XX, sL 5 Zm a0.Yt.Zw, .bool a0.XV.Qc, .int .i64 a0.XV.Z6, .str a0.XV.Vp, .str a0.XV.Ql, sL 5 Zm a0.XV.Zw, .bool a0.Xc.Qc, .int .i64 a0.Xc.Xe, .int .i64 a0.Xc.Xf, sL 4 Z0 a0.Xc.Xb, sL 2 ZY a0.Xc.Xh, sL 3 ZU a0.Xc.Z2, sL 5 ZV a0.Xc.Z3, sL 5 Zm a0.Xc.Zw], .box [.str (⟨#[]⟩ : ByteArray), .int .i64 0, .sl true 12 0 (fun _ => []), .sl true 2 0 (fun _ => []), .sl true 2 0 (fun _ => []), .sl true 2 0 (fun _ => []), .sl true 9 0 (fun _ => []), .sl true 7 0 (fun _ => []), .bool false, .int .i64 0, .sl true 3 0 (fun _ => []), .sl true 5 0 (fun _ => []), .bool false, .int .i64 0, .str (⟨#[]⟩ : ByteArray), .str (⟨#[]⟩ : ByteArray), .sl true 5 0 (fun _ => []), .bool false, .int .i64 0, .int .i64 0, .sl true 4 0 (fun _ => []), .sl true 2 0 (fun _ => []), .sl true 3 0 (fun _ => []), .sl true 5 0 (fun _ => []), .sl true 5 0 (fun _ => [])], aL 12 Zd ([] : List Zk), aL 2 Zi ([] : List ZZ), aL 2 Zx r6]⟩) (s' := ⟨136, u1, [.box [.str a0.XT, .int .i64 a0.WL, sL 12 Zd r1, sL 2 Zi r2, .sl false 2 r6.length (fun k => (fun i => Zx (r6.getD i default)) (0 + k)), sL 2 XG a0.Qw, sL 9 ZB a0.Jd, sL 7 ZF a0.Xl, .bool a0.Yt.Qc, .int .i64 a0.Yt.Z6, sL 3 ZT a0.Yt.XX, sL 5 Zm a0.Yt.Zw, .bool a0.XV.Qc, .int .i64 a0.XV.Z6, .str a0.XV.Vp, .str a0.XV.Ql, sL 5 Zm a0.XV.Zw, .bool a0.Xc.Qc, .int .i64 a0.Xc.Xe, .int .i64 a0.Xc.Xf, sL 4 Z0 a0.Xc.Xb, sL 2 ZY a0.Xc.Xh, sL 3 ZU a0.Xc.Z2, sL 5 ZV a0.Xc.Z3, sL 5 Zm a0.Xc.Zw], .box [.str (⟨#[]⟩ : ByteArray), .int .i64 0, .sl true 12 0 (fun _ => []), .sl true 2 0 (fun _ => []), .sl true 2 0 (fun _ => []), .sl true 2 0 (fun _ => []), .sl true 9 0 (fun _ => []), .sl true 7 0 (fun _ => []), .bool false, .int .i64 0, .sl true 3 0 (fun _ => []), .sl true 5 0 (fun _ => []), .bool false, .int .i64 0, .str (⟨#[]⟩ : ByteArray), .str (⟨#[]⟩ : ByteArray), .sl true 5 0 (fun _ => []), .bool false, .int .i64 0, .int .i64 0, .sl true 4 0 (fun _ => []), .sl true 2 0 (fun _ => []), .sl true 3 0 (fun _ => []), .sl true 5 0 (fun _ => []), .sl true 5 0 (fun _ => [])], aL 12 Zd ([] : List Zk), aL 2 Zi ([] : List ZZ), aL 2 Zx ([] : List Xu)]⟩) 4 2 r6.length (fun i => Zx (r6.getD i default)) (fun i => Zx (([] : List Xu).getD i default)) (by kernel_rfl) (by kernel_rfl) (by kernel_rfl))) (kp [1, 2])) ?_))
 obtain ⟨r10, q27, h28⟩ := bind_some h22
 refine rg [oL 2 XG r10] [1, 2] 6 ⟨136, u1, [.box [.str a0.XT, .int .i64 a0.WL, sL 12 Zd r1, sL 2 Zi r2, .sl false 2 r6.length (fun k => (fun i => Zx (r6.getD i default)) (0 + k)), .asl 5 0 r10.length, sL 9 ZB a0.Jd, sL 7 ZF a0.Xl, .bool a0.Yt.Qc, .int .i64 a0.Yt.Z6, sL 3 ZT a0.Yt.XX, sL 5 Zm a0.Yt.Zw, .bool a0.XV.Qc, .int .i64 a0.XV.Z6, .str a0.XV.Vp, .str a0.XV.Ql, sL 5 Zm a0.XV.Zw, .bool a0.Xc.Qc, .int .i64 a0.Xc.Xe, .int .i64 a0.Xc.Xf, sL 4 Z0 a0.Xc.Xb, sL 2 ZY a0.Xc.Xh, sL 3 ZU a0.Xc.Z2, sL 5 ZV a0.Xc.Z3, sL 5 Zm a0.Xc.Zw], .box [.str (⟨#[]⟩ : ByteArray), .int .i64 0, .sl true 12 0 (fun _ => []), .sl true 2 0 (fun _ => []), .sl true 2 0 (fun _ => []), .sl true 2 0 (fun _ => []), .sl true 9 0 (fun _ => []), .sl true 7 0 (fun _ => []), .bool false, .int .i64 0, .sl true 3 0 (fun _ => []), .sl true 5 0 (fun _ => []), .bool false, .int .i64 0, .str (⟨#[]⟩ : ByteArray), .str (⟨#[]⟩ : ByteArray), .sl true 5 0 (fun _ => []), .bool false, .int .i64 0, .int .i64 0, .sl true 4 0 (fun _ => []), .sl true 2 0 (fun _ => []), .sl true 3 0 (fun _ => []), .sl true 5 0 (fun _ => []), .sl true 5 0 (fun _ => [])], aL 12 Zd ([] : List Zk), aL 2 Zi ([] : List ZZ), aL 2 Zx ([] : List Xu), aL 2 XG r10]⟩ [] [⟨true, 118, [sL 2 XG a0.Qw], oL 2 XG r10⟩] ZA ⟨fun _ => JK a0.Qw r10 q27, trivial⟩ (Yy (s' := ⟨136, u1, [.box [.str a0.XT, .int .i64 a0.WL, sL 12 Zd r1, sL 2 Zi r2, sL 2 Zx r6, .asl 5 0 r10.length, sL 9 ZB a0.Jd, sL 7 ZF a0.Xl, .bool a0.Yt.Qc, .int .i64 a0.Yt.Z6, sL 3 ZT a0.Yt.XX, sL 5 Zm a0.Yt.Zw, .bool a0.XV.Qc, .int .i64 a0.XV.Z6, .str a0.XV.Vp, .str a0.XV.Ql, sL 5 Zm a0.XV.Zw, .bool a0.Xc.Qc, .int .i64 a0.Xc.Xe, .int .i64 a0.Xc.Xf, sL 4 Z0 a0.Xc.Xb, sL 2 ZY a0.Xc.Xh, sL 3 ZU a0.Xc.Z2, sL 5 ZV a0.Xc.Z3, sL 5 Zm a0.Xc.Zw], .box [.str (⟨#[]⟩ : ByteArray), .int .i64 0, .sl true 12 0 (fun _ => []), .sl true 2 0 (fun _ => []), .sl true 2 0 (fun _ => []), .sl true 2 0 (fun _ => []), .sl true 9 0 (fun _ => []), .sl true 7 0 (fun _ => []), .bool false, .int .i64 0, .sl true 3 0 (fun _ => []), .sl true 5 0 (fun _ => []), .bool false, .int .i64 0, .str (⟨#[]⟩ : ByteArray), .str (⟨#[]⟩ : ByteArray), .sl true 5 0 (fun _ => []), .bool false, .int .i64 0, .int .i64 0, .sl true 4 0 (fun _ => []), .sl true 2 0 (fun _ => []), .sl true 3 0 (fun _ => []), .sl true 5 0 (fun _ => []), .sl true 5 0 (fun _ => [])], aL 12 Zd ([] : List Zk), aL 2 Zi ([] : List ZZ), aL 2 Zx ([] : List Xu), aL 2 XG r10]⟩) (Y5 (.cons Sub.rfl (.cons Sub.rfl .nil)) (.cons (.box (.cons CSub.rfl (.cons CSub.rfl (.cons CSub.rfl (.cons CSub.rfl (.cons (VY rfl (Uy (f := fun i => Zx (r6.getD i default)) (fun _ _ => rfl))) (.cons CSub.rfl (.cons CSub.rfl (.cons CSub.rfl (.cons CSub.rfl (.cons CSub.rfl (.cons CSub.rfl (.cons CSub.rfl (.cons CSub.rfl (.cons CSub.rfl (.cons CSub.rfl (.cons CSub.rfl (.cons CSub.rfl (.cons CSub.rfl (.cons CSub.rfl (.cons CSub.rfl (.cons CSub.rfl (.cons CSub.rfl (.cons CSub.rfl (.cons CSub.rfl (.cons CSub.rfl .nil)))))))))))))))))))))))))) (.cons .rfl (.cons .rfl (.cons .rfl (.cons .rfl (.cons .rfl .nil))))))) (Za (Za (zg [1, 2, 62, 63] 6 (Zb (Zt ?_))))))
 obtain ⟨y13, q33, h34⟩ := bind_some h28
 refine zl (fun (p11 : Int) => ⟨136, [(1, .ref 0 0), (2, .ref 1 0), (62, .int .i64 (r10.length : Int)), (63, .int .i64 p11)], [.box [.str a0.XT, .int .i64 a0.WL, sL 12 Zd r1, sL 2 Zi r2, sL 2 Zx r6, .asl 5 0 r10.length, sL 9 ZB a0.Jd, sL 7 ZF a0.Xl, .bool a0.Yt.Qc, .int .i64 a0.Yt.Z6, sL 3 ZT a0.Yt.XX, sL 5 Zm a0.Yt.Zw, .bool a0.XV.Qc, .int .i64 a0.XV.Z6, .str a0.XV.Vp, .str a0.XV.Ql, sL 5 Zm a0.XV.Zw, .bool a0.Xc.Qc, .int .i64 a0.Xc.Xe, .int .i64 a0.Xc.Xf, sL 4 Z0 a0.Xc.Xb, sL 2 ZY a0.Xc.Xh, sL 3 ZU a0.Xc.Z2, sL 5 ZV a0.Xc.Z3, sL 5 Zm a0.Xc.Zw], .box [.str (⟨#[]⟩ : ByteArray), .int .i64 0, .sl true 12 0 (fun _ => []), .sl true 2 0 (fun _ => []), .sl true 2 0 (fun _ => []), .sl true 2 0 (fun _ => []), .sl true 9 0 (fun _ => []), .sl true 7 0 (fun _ => []), .bool false, .int .i64 0, .sl true 3 0 (fun _ => []), .sl true 5 0 (fun _ => []), .bool false, .int .i64 0, .str (⟨#[]⟩ : ByteArray), .str (⟨#[]⟩ : ByteArray), .sl true 5 0 (fun _ => []), .bool false, .int .i64 0, .int .i64 0, .sl true 4 0 (fun _ => []), .sl true 2 0 (fun _ => []), .sl true 3 0 (fun _ => []), .sl true 5 0 (fun _ => []), .sl true 5 0 (fun _ => [])], aL 12 Zd ([] : List Zk), aL 2 Zi ([] : List ZZ), aL 2 Zx ([] : List Xu), aL 2 XG r10]⟩) (fun z => OutE 4 (fun z => ⟨136, u1, [.box [.str a0.XT, .int .i64 a0.WL, sL 12 Zd r1, sL 2 Zi r2, sL 2 Zx r6, .asl 5 0 r10.length, sL 9 ZB a0.Jd, sL 7 ZF a0.Xl, .bool a0.Yt.Qc, .int .i64 a0.Yt.Z6, sL 3 ZT a0.Yt.XX, sL 5 Zm a0.Yt.Zw, .bool a0.XV.Qc, .int .i64 a0.XV.Z6, .str a0.XV.Vp, .str a0.XV.Ql, sL 5 Zm a0.XV.Zw, .bool a0.Xc.Qc, .int .i64 a0.Xc.Xe, .int .i64 a0.Xc.Xf, sL 4 Z0 a0.Xc.Xb, sL 2 ZY a0.Xc.Xh, sL 3 ZU a0.Xc.Z2, sL 5 ZV a0.Xc.Z3, sL 5 Zm a0.Xc.Zw], .box [.str (⟨#[]⟩ : ByteArray), .int .i64 0, .sl true 12 0 (fun _ => []), .sl true 2 0 (fun _ => []), .sl true 2 0 (fun _ => []), .sl true 2 0 (fun _ => []), .sl true 9 0 (fun _ => []), .sl true 7 0 (fun _ => []), .bool false, .int .i64 0, .sl true 3 0 (fun _ => []), .sl true 5 0 (fun _ => []), .bool false, .int .i64 0, .str (⟨#[]⟩ : ByteArray), .str (⟨#[]⟩ : ByteArray), .sl true 5 0 (fun _ => []), .bool false, .int .i64 0, .int .i64 0, .sl true 4 0 (fun _ => []), .sl true 2 0 (fun _ => []), .sl true 3 0 (fun _ => []), .sl true 5 0 (fun _ => []), .sl true 5 0 (fun _ => [])], aL 12 Zd ([] : List Zk), aL 2 Zi ([] : List ZZ), aL 2 Zx ([] : List Xu), aL 2 XG r10]⟩) z) q33 ?_ ?_
 intro p11 y12 h29
 unfold M.Yd at h29
 refine Za (zg [1, 2, 62, 63, 64] 6 (Zb (Za (cn h29 (fun _ h31 => ?_) (fun _ h32 => ?_)))))
 refine Zf (Zb (Za (Zt (Za ?_))))
 cases h31
 exact Xi (X8 (re h32 ⟨rfl, kq⟩))
 intro e35 s36 o37
 refine zi o37 (Za (JP (s' := ⟨136, u1, [.box [.str a0.XT, .int .i64 a0.WL, sL 12 Zd r1, sL 2 Zi r2, sL 2 Zx r6, .sl false 2 r10.length (fun k => (fun i => XG (r10.getD i default)) (0 + k)), sL 9 ZB a0.Jd, sL 7 ZF a0.Xl, .bool a0.Yt.Qc, .int .i64 a0.Yt.Z6, sL 3 ZT a0.Yt.XX, sL 5 Zm a0.Yt.Zw, .bool a0.XV.Qc, .int .i64 a0.XV.Z6, .str a0.XV.Vp, .str a0.XV.Ql, sL 5 Zm a0.XV.Zw, .bool a0.Xc.Qc, .int .i64 a0.Xc.Xe, .int .i64 a0.Xc.Xf, sL 4 Z0 a0.Xc.Xb, sL 2 ZY a0.Xc.Xh, sL 3 ZU a0.Xc.Z2, sL 5 ZV a0.Xc.Z3, sL 5 Zm a0.Xc.Zw], .box [.str (⟨#[]⟩ : ByteArray), .int .i64 0, .sl true 12 0 (fun _ => []), .sl true 2 0 (fun _ => []), .sl true 2 0 (fun _ => []), .sl true 2 0 (fun _ => []), .sl true 9 0 (fun _ => []), .sl true 7 0 (fun _ => []), .bool false, .int .i64 0, .sl true 3 0 (fun _ => []), .sl true 5 0 (fun _ => []), .bool false, .int .i64 0, .str (⟨#[]⟩ : ByteArray), .str (⟨#[]⟩ : ByteArray), .sl true 5 0 (fun _ => []), .bool false, .int .i64 0, .int .i64 0, .sl true 4 0 (fun _ => []), .sl true 2 0 (fun _ => []), .sl true 3 0 (fun _ => []), .sl true 5 0 (fun _ => []), .sl true 5 0 (fun _ => [])], aL 12 Zd ([] : List Zk), aL 2 Zi ([] : List ZZ), aL 2 Zx ([] : List Xu), aL 2 XG ([] : List VI)]⟩) (Le.trans ((GZ (s := ⟨136, u1, [.box [.str a0.XT, .int .i64 a0.WL, sL 12 Zd r1, sL 2 Zi r2, sL 2 Zx r6, .asl 5 0 r10.length, sL 9 ZB a0.Jd, sL 7 ZF a0.Xl, .bool a0.Yt.Qc, .int .i64 a0.Yt.Z6, sL 3 ZT a0.Yt.XX, sL 5 Zm a0.Yt.Zw, .bool a0.XV.Qc, .int .i64 a0.XV.Z6, .str a0.XV.Vp, .str a0.XV.Ql, sL 5 Zm a0.XV.Zw, .bool a0.Xc.Qc, .int .i64 a0.Xc.Xe, .int .i64 a0.Xc.Xf, sL 4 Z0 a0.Xc.Xb, sL 2 ZY a0.Xc.Xh, sL 3 ZU a0.Xc.Z2, sL 5 ZV a0.Xc.Z3, sL 5 Zm a0.Xc.Zw], .box [.str (⟨#[]⟩ : ByteArray), .int .i64 0, .sl true 12 0 (fun _ => []), .sl true 2 0 (fun _ => []), .sl true 2 0 (fun _ => []), .sl true 2 0 (fun _ => []), .sl true 9 0 (fun _ => []), .sl true 7 0 (fun _ => []), .bool false, .int .i64 0, .sl true 3 0 (fun _ => []), .sl true 5 0 (fun _ => []), .bool false, .int .i64 0, .str (⟨#[]⟩ : ByteArray), .str (⟨#[]⟩ : ByteArray), .sl true 5 0 (fun _ => []), .bool false, .int .i64 0, .int .i64 0, .sl true 4 0 (fun _ => []), .sl true 2 0 (fun _ => []), .sl true 3 0 (fun _ => []), .sl true 5 0 (fun _ => []), .sl true 5 0 (fun _ => [])], aL 12 Zd ([] : List Zk), aL 2 Zi ([] : List ZZ), aL 2 Zx ([] : List Xu), aL 2 XG r10]⟩) (s' := ⟨136, u1, [.box [.str a0.XT, .int .i64 a0.WL, sL 12 Zd r1, sL 2 Zi r2, sL 2 Zx r6, .sl false 2 r10.length (fun k => (fun i => XG (r10.getD i default)) (0 + k)), sL 9 ZB a0.Jd, sL 7 ZF a0.Xl, .bool a0.Yt.Qc, .int .i64 a0.Yt.Z6, sL 3 ZT a0.Yt.XX, sL 5 Zm a0.Yt.Zw, .bool a0.XV.Qc, .int .i64 a0.XV.Z6, .str a0.XV.Vp, .str a0.XV.Ql, sL 5 Zm a0.XV.Zw, .bool a0.Xc.Qc, .int .i64 a0.Xc.Xe, .int .i64 a0.Xc.Xf, sL 4 Z0 a0.Xc.Xb, sL 2 ZY a0.Xc.Xh, sL 3 ZU a0.Xc.Z2, sL 5 ZV a0.Xc.Z3, sL 5 Zm a0.Xc.Zw], .box [.str (⟨#[]⟩ : ByteArray), .int .i64 0, .sl true 12 0 (fun _ => []), .sl true 2 0 (fun _ => []), .sl true 2 0 (fun _ => []), .sl true 2 0 (fun _ => []), .sl true 9 0 (fun _ => []), .sl true 7 0 (fun _ => []), .bool false, .int .i64 0, .sl true 3 0 (fun _ => []), .sl true 5 0 (fun _ => []), .bool false, .int .i64 0, .str (⟨#[]⟩ : ByteArray), .str (⟨#[]⟩ : ByteArray), .sl true 5 0 (fun _ => []), .bool false, .int .i64 0, .int .i64 0, .sl true 4 0 (fun _ => []), .sl true 2 0 (fun _ => []), .sl true 3 0 (fun _ => []), .sl true 5 0 (fun _ => []), .sl true 5 0 (fun _ => [])], aL 12 Zd ([] : List Zk), aL 2 Zi ([] : List ZZ), aL 2 Zx ([] : List Xu), aL 2 XG ([] : List VI)]⟩) 5 2 r10.length (fun i => XG (r10.getD i default)) (fun i => XG (([] : List VI).getD i default)) (by kernel_rfl) (by kernel_rfl) (by kernel_rfl))) (kp [1, 2])) ?_))
 obtain ⟨r14, q39, h40⟩ := bind_some h34
 refine rg [.pure (sL 9 ZB r14)] [1, 2] 2 ⟨136, u1, [.box [.str a0.XT, .int .i64 a0.WL, sL 12 Zd r1, sL 2 Zi r2, sL 2 Zx r6, .sl false 2 r10.length (fun k => (fun i => XG (r10.getD i default)) (0 + k)), sL 9 ZB r14, sL 7 ZF a0.Xl, .bool a0.Yt.Qc, .int .i64 a0.Yt.Z6, sL 3 ZT a0.Yt.XX, sL 5 Zm a0.Yt.Zw, .bool a0.XV.Qc, .int .i64 a0.XV.Z6, .str a0.XV.Vp, .str a0.XV.Ql, sL 5 Zm a0.XV.Zw, .bool a0.Xc.Qc, .int .i64 a0.Xc.Xe, .int .i64 a0.Xc.Xf, sL 4 Z0 a0.Xc.Xb, sL 2 ZY a0.Xc.Xh, sL 3 ZU a0.Xc.Z2, sL 5 ZV a0.Xc.Z3, sL 5 Zm a0.Xc.Zw], .box [.str (⟨#[]⟩ : ByteArray), .int .i64 0, .sl true 12 0 (fun _ => []), .sl true 2 0 (fun _ => []), .sl true 2 0 (fun _ => []), .sl true 2 0 (fun _ => []), .sl true 9 0 (fun _ => []), .sl true 7 0 (fun _ => []), .bool false, .int .i64 0, .sl true 3 0 (fun _ => []), .sl true 5 0 (fun _ => []), .bool false, .int .i64 0, .str (⟨#[]⟩ : ByteArray), .str (⟨#[]⟩ : ByteArray), .sl true 5 0 (fun _ => []), .bool false, .int .i64 0, .int .i64 0, .sl true 4 0 (fun _ => []), .sl true 2 0 (fun _ => []), .sl true 3 0 (fun _ => []), .sl true 5 0 (fun _ => []), .sl true 5 0 (fun _ => [])]]⟩ [] [⟨true, 120, [sL 9 ZB a0.Jd], .pure (sL 9 ZB r14)⟩] ZA ⟨fun _ => Qp a0.Jd r14 q39, trivial⟩ (Yy (s' := ⟨136, u1, [.box [.str a0.XT, .int .i64 a0.WL, sL 12 Zd r1, sL 2 Zi r2, sL 2 Zx r6, sL 2 XG r10, sL 9 ZB r14, sL 7 ZF a0.Xl, .bool a0.Yt.Qc, .int .i64 a0.Yt.Z6, sL 3 ZT a0.Yt.XX, sL 5 Zm a0.Yt.Zw, .bool a0.XV.Qc, .int .i64 a0.XV.Z6, .str a0.XV.Vp, .str a0.XV.Ql, sL 5 Zm a0.XV.Zw, .bool a0.Xc.Qc, .int .i64 a0.Xc.Xe, .int .i64 a0.Xc.Xf, sL 4 Z0 a0.Xc.Xb, sL 2 ZY a0.Xc.Xh, sL 3 ZU a0.Xc.Z2, sL 5 ZV a0.Xc.Z3, sL 5 Zm a0.Xc.Zw], .box [.str (⟨#[]⟩ : ByteArray), .int .i64 0, .sl true 12 0 (fun _ => []), .sl true 2 0 (fun _ => []), .sl true 2 0 (fun _ => []), .sl true 2 0 (fun _ => []), .sl true 9 0 (fun _ => []), .sl true 7 0 (fun _ => []), .bool false, .int .i64 0, .sl true 3 0 (fun _ => []), .sl true 5 0 (fun _ => []), .bool false, .int .i64 0, .str (⟨#[]⟩ : ByteArray), .str (⟨#[]⟩ : ByteArray), .sl true 5 0 (fun _ => []), .bool false, .int .i64 0, .int .i64 0, .sl true 4 0 (fun _ => []), .sl true 2 0 (fun _ => []), .sl true 3 0 (fun _ => []), .sl true 5 0 (fun _ => []), .sl true 5 0 (fun _ => [])]]⟩) (Y5 (.cons Sub.rfl (.cons Sub.rfl .nil)) (.cons (.box (.cons CSub.rfl (.cons CSub.rfl (.cons CSub.rfl (.cons CSub.rfl (.cons CSub.rfl (.cons (VY rfl (Uy (f := fun i => XG (r10.getD i default)) (fun _ _ => rfl))) (.cons CSub.rfl (.cons CSub.rfl (.cons CSub.rfl (.cons CSub.rfl (.cons CSub.rfl (.cons CSub.rfl (.cons CSub.rfl (.cons CSub.rfl (.cons CSub.rfl (.cons CSub.rfl (.cons CSub.rfl (.cons CSub.rfl (.cons CSub.rfl (.cons CSub.rfl (.cons CSub.rfl (.cons CSub.rfl (.cons CSub.rfl (.cons CSub.rfl (.cons CSub.rfl .nil)))))))))))))))))))))))))) (.cons .rfl .nil))) (Za ?_))
 obtain ⟨r15, q41, h42⟩ := bind_some h40
 refine zr [1, 2] 2 ZA (rq1 (Qq _ _ q41) rqn) (Zb (Za ?_))
 obtain ⟨r16, q43, h44⟩ := bind_some h42
 refine zr [1, 2] 2 ZA (rq1 (QJ _ _ q43) rqn) (Zb (Za ?_))
 obtain ⟨r17, q45, h46⟩ := bind_some h44
 refine zr [1, 2] 2 ZA (rq1 (Yk _ _ q45) rqn) (Zb (Za ?_))
 obtain ⟨r18, q47, h48⟩ := bind_some h46
 refine zr [1, 2] 2 ZA (rq1 (Yk _ _ q47) rqn) (Zb (Za ?_))
 obtain ⟨r19, q49, h50⟩ := bind_some h48
 refine zr [1, 2] 2 ZA (rq1 (Q0 _ _ q49) rqn) (Zb (Za ?_))
 obtain ⟨r20, q51, h52⟩ := bind_some h50
 refine zr [1, 2] 2 ZA (rq1 (Jj _ _ q51) rqn) (Zb (Za ?_))
 obtain ⟨r21, q53, h54⟩ := bind_some h52
 refine zr [1, 2] 2 ZA (rq1 (QL _ _ q53) rqn) (Zb (Za ?_))
 obtain ⟨r22, q55, h56⟩ := bind_some h54
 refine zr [1, 2] 2 ZA (rq1 (QM _ _ q55) rqn) (Zb (Za ?_))
 obtain ⟨r23, q57, h58⟩ := bind_some h56
 refine zr [1, 2] 2 ZA (rq1 (Yk _ _ q57) rqn) (Zb (Za (zg [2] 2 (Zb (Zs ?_)))))
 obtain rfl := Option.some.inj h58
 exact er0 (.agg [.str a0.XT, .int .i64 a0.WL, sL 12 Zd r1, sL 2 Zi r2, sL 2 Zx r6, sL 2 XG r10, sL 9 ZB r14, sL 7 ZF r15, .bool a0.Yt.Qc, .int .i64 a0.Yt.Z6, sL 3 ZT r16, sL 5 Zm r17, .bool a0.XV.Qc, .int .i64 a0.XV.Z6, .str a0.XV.Vp, .str a0.XV.Ql, sL 5 Zm r18, .bool a0.Xc.Qc, .int .i64 a0.Xc.Xe, .int .i64 a0.Xc.Xf, sL 4 Z0 r19, sL 2 ZY r20, sL 3 ZU r21, sL 5 ZV r22, sL 5 Zm r23])
theorem WU (a0 : Z7) (r : Z7) (h : M.Yi a0 = some r) : Fn Tryz.prog 48 [.agg (Xy a0)] (.pure (.agg (Xy r))) := by
 let u1 := Xy a0
 unfold M.Yi at h
 refine ZR Tryz.func48 rfl (by kernel_rfl) (Za (zg [1, 2] 2 (Zb (Za ?_))))
 obtain ⟨r1, q1, h2⟩ := bind_some h
 refine rg [oL 25 Zv r1] [2, 3] 3 ⟨24, [(2, .ref 1 0), (3, .asl 2 0 r1.length)], [.box u1, .box [.sl true 25 0 (fun _ => [])], aL 25 Zv r1]⟩ [] [⟨true, 68, [sL 25 Zv a0.Ze], oL 25 Zv r1⟩] ZA ⟨fun _ => Jf a0.Ze r1 q1, trivial⟩ (Zb (Za (Za (zg [2, 3, 9, 10] 3 (Zb (Zt ?_))))))
 obtain ⟨y5, q11, h12⟩ := bind_some h2
 refine zl (fun (p2 : (List Zg) × Int) => ⟨24, [(2, .ref 1 0), (3, .asl 2 0 p2.1.length), (9, .int .i64 (r1.length : Int)), (10, .int .i64 p2.2)], [.box u1, .box [.sl true 25 0 (fun _ => [])], aL 25 Zv p2.1]⟩) (fun z => OutE 0 (fun z => ⟨24, [(2, .ref 1 0), (3, .asl 2 0 z.length)], [.box u1, .box [.sl true 25 0 (fun _ => [])], aL 25 Zv z]⟩) z) q11 ?_ ?_
 intro p2 y3 h3
 unfold M.X5 at h3
 refine Za (zg [2, 3, 9, 10, 11] 3 (Zb (Za (cn h3 (fun _ h5 => ?_) (fun _ h6 => ?_)))))
 refine Zf (Zb (Za (Zt (Za (zg [2, 3, 4, 9, 10] 3 (Zb ?_))))))
 obtain ⟨r4, q7, h8⟩ := bind_some h5
 obtain ⟨c9, h10⟩ := ZP h8
 exact rg [.pure (.agg (Zv r4))] [2, 3, 9, 10] 3 ⟨24, [(2, .ref 1 0), (3, .asl 2 0 p2.1.length), (9, .int .i64 (r1.length : Int)), (10, .int .i64 p2.2)], [.box (Xy a0), .box [.sl true 25 0 (fun _ => [])], .arr 25 p2.1.length (fun j => bif Nat.beq j (0 + p2.2.toNat) then splice (Zv (p2.1.getD (0 + p2.2.toNat) default)) [.str r4.XT, .int .i64 r4.WL, sL 12 Zd r4.Zc, sL 2 Zi r4.JQ, sL 2 Zx r4.Jp, sL 2 XG r4.Qw, sL 9 ZB r4.Jd, sL 7 ZF r4.Xl, .bool r4.Yt.Qc, .int .i64 r4.Yt.Z6, sL 3 ZT r4.Yt.XX, sL 5 Zm r4.Yt.Zw, .bool r4.XV.Qc, .int .i64 r4.XV.Z6, .str r4.XV.Vp, .str r4.XV.Ql, sL 5 Zm r4.XV.Zw, .bool r4.Xc.Qc, .int .i64 r4.Xc.Xe, .int .i64 r4.Xc.Xf, sL 4 Z0 r4.Xc.Xb, sL 2 ZY r4.Xc.Xh, sL 3 ZU r4.Xc.Z2, sL 5 ZV r4.Xc.Z3, sL 5 Zm r4.Xc.Zw] 0 else Zv (p2.1.getD j default))]⟩ [decide (0 ≤ p2.2), decide (p2.2 < (p2.1.length : Int)), decide (0 ≤ p2.2), decide (p2.2 < (p2.1.length : Int))] [⟨true, 69, [.agg (Zv (p2.1.getD (0 + p2.2.toNat) default))], .pure (.agg (Zv r4))⟩] c9 ⟨fun _ => Ui (p2.1.getD (0 + p2.2.toNat) default) r4 q7, trivial⟩ (YQ (Yy (s' := ⟨24, [(2, .ref 1 0), (3, .asl 2 0 ((p2.1.set (0 + p2.2.toNat) r4).length)), (9, .int .i64 (r1.length : Int)), (10, .int .i64 p2.2)], [.box (Xy a0), .box [.sl true 25 0 (fun _ => [])], aL 25 Zv (p2.1.set (0 + p2.2.toNat) r4)]⟩) (Y5 (.cons Sub.rfl (.cons (Qk (by simp)) (.cons Sub.rfl (.cons Sub.rfl .nil)))) (.cons .rfl (.cons .rfl (.cons (.arr (by simp) (ZcL Zv p2.1 (0 + p2.2.toNat) r4 _ rfl)) .nil)))) (zg [2, 3, 9, 10] 3 (rn h10))))
 exact Xi (X8 (re h6 ⟨rfl, kq⟩))
 intro e13 s14 o15
 refine zi o15 (Za (JP (s' := ⟨24, [(2, .ref 1 0), (3, sL 25 Zv y5)], [.box u1, .box [.sl true 25 0 (fun _ => [])], aL 25 Zv ([] : List Zg)]⟩) (Le.trans (KZ 3 2 25 Zv y5 (fun i => Zv (([] : List Zg).getD i default)) (by kernel_rfl) (by kernel_rfl) (by kernel_rfl)) (kp [2, 3])) (zg [2] 2 (Zb (Zs ?_)))))
 obtain rfl := Option.some.inj h12
 exact er0 (.agg [sL 25 Zv y5])
theorem US (a0 : Z7) (a1 : List Int) (r : Jq × Int) (h : M.QG a0 a1 = some r) : Fn Tryz.prog 16 [.agg (Xy a0), sL 1 (ci .i64) a1] (.pure (.tup [.agg (Js r.1), .int .i64 r.2])) := by
 let u2 := Xy a0
 unfold M.QG at h
 refine ZR Tryz.func16 rfl (by kernel_rfl) (Za (zg [1, 2, 4] 2 (Zb (Za ?_))))
 obtain ⟨r1, q1, h2⟩ := bind_some h
 let u1 : List Ob := [.box u2, .box [.sl true 25 0 (fun _ => []), .sl true 4 0 (fun _ => []), .sl true 1 0 (fun _ => []), .sl true 1 0 (fun _ => [])], .box (Gj r1.1)]
 refine zr [1, 2, 4, 6, 7] 3 ZA (rq1 (Km _ _ q1) rqn) (Zb (Za (Za (zg [1, 2, 4, 6, 7, 16] 3 (Zb (cn h2 (fun _ h4 => ?_) (fun _ h5 => ?_)))))))
 refine Za ?_
 cases h4
 refine Zf (Zb (Za (Za (zg [1, 2, 4, 6, 21] 3 (Zb (cn h5 (fun _ h7 => ?_) (fun _ h8 => ?_)))))))
 refine Za ?_
 cases h7
 refine Zf (Zb (Za (Za (zg [1, 2, 4, 6, 23, 24, 25] 3 (Zb (Zt ?_))))))
 obtain ⟨y4, q20, h21⟩ := bind_some h8
 refine zl (fun (p2 : Int) => ⟨60, [(1, sL 1 (ci .i64) a1), (2, .ref 0 0), (4, .ref 1 0), (6, .ref 2 0), (23, sL 1 (ci .i64) a1), (24, .int .i64 (a1.length : Int)), (25, .int .i64 p2)], u1⟩) (fun z => OutE 0 (fun z => ⟨60, [(1, sL 1 (ci .i64) a1), (2, .ref 0 0), (4, .ref 1 0), (6, .ref 2 0)], u1⟩) z) q20 ?_ ?_
 intro p2 y3 h9
 unfold M.Qo at h9
 refine Za (zg [1, 2, 4, 6, 23, 24, 25, 26] 3 (Zb (Za (cn h9 (fun _ h11 => ?_) (fun _ h12 => ?_)))))
 refine Zf (Zb (Za (Zt (Za ?_))))
 obtain ⟨c13, h14⟩ := ZP h11
 refine zc [1, 2, 4, 6, 8, 9, 23, 24, 25] 3 c13 (Zb (Za ?_))
 obtain ⟨c15, h16⟩ := ZP h14
 refine zc [1, 2, 4, 6, 23, 24, 25, 51] 3 c15 (Zb (cn h16 (fun _ h18 => ?_) (fun _ h19 => ?_)))
 refine Za ?_
 cases h18
 exact Zf (YQ (Zb (zg [1, 2, 4, 6, 23, 24, 25] 3 (rn h19))))
 exact Xi (X8 (re h12 ⟨rfl, kq⟩))
 intro e22 s23 o24
 refine zi o24 (Za ?_)
 obtain ⟨r5, q26, h27⟩ := bind_some h21
 let u3 := Xy r5
 obtain ⟨r6, q28, h29⟩ := bind_some h27
 refine rgU [1, 2, 4, 5, 6, 54, 55, 56, 57, 58, 59] [([], [], []), ([.pure (.agg u3)], [], [⟨true, 48, [.agg u2], .pure (.agg u3)⟩]), ([], [], []), ([], [], []), ([.pure (sL 1 (ci .i64) r6)], [], [⟨true, 49, [sL 1 (ci .i64) a1], .pure (sL 1 (ci .i64) r6)⟩]), ([], [], []), ([], [], []), ([], [], [])] [4, 5] 2 ⟨60, [(4, .ref 1 0), (5, .int .i64 0)], [.box u2, .box [sL 25 Zv r5.Ze, sL 4 ZM r1.1.YI, sL 1 (ci .i64) r1.1.QC, sL 1 (ci .i64) r6]]⟩ [] [⟨true, 48, [.agg u2], .pure (.agg u3)⟩, ⟨true, 49, [sL 1 (ci .i64) a1], .pure (sL 1 (ci .i64) r6)⟩] ZA ⟨fun _ => WU a0 r5 q26, fun _ => VO a1 r6 q28, trivial⟩ (Zb (Zs ?_))
 obtain rfl := Option.some.inj h29
 exact er0 (.tup [.agg [sL 25 Zv r5.Ze, sL 4 ZM r1.1.YI, sL 1 (ci .i64) r1.1.QC, sL 1 (ci .i64) r6], .int .i64 0])
theorem JL (a0 : List Je) (a1 : Je) (r : Int) (h : M.Xa a0 a1 = some r) : Fn Tryz.prog 72 [sL 2 Xz a0, .agg (Xz a1)] (.pure (.int .i64 r)) := by
 unfold M.Xa at h
 refine ZR Tryz.func72 rfl (by kernel_rfl) (Za (zg [0, 3] 1 (Zb (Za (Za (zg [0, 3, 7, 8] 1 (Zb (Zt ?_))))))))
 obtain ⟨y3, q10, h11⟩ := bind_some h
 refine zl (fun (p1 : Int) => ⟨19, [(0, sL 2 Xz a0), (3, .ref 0 0), (7, .int .i64 (a0.length : Int)), (8, .int .i64 p1)], [.box (Xz a1)]⟩) (Sum.elim (fun z => OutE 0 (fun z => ⟨19, [], []⟩) z) (fun z => OutR Tryz.prog Tryz.f72 (.int .i64 z))) q10 ?_ ?_
 intro p1 y2 h1
 unfold M.Z8 at h1
 refine Za (zg [0, 3, 7, 8, 9] 1 (Zb (Za (cn h1 (fun _ h3 => ?_) (fun _ h4 => ?_)))))
 refine Zf (Zb (Za (Zt (Za (zg [0, 3, 5, 7, 8] 1 (Zb (Za ?_)))))))
 obtain ⟨c5, h6⟩ := ZP h3
 refine zc [0, 3, 5, 7, 8, 16] 1 c5 (Zb (cn h6 (fun _ h8 => ?_) (fun _ h9 => ?_)))
 exact Za (zg [4] 0 (Zb (Zs (JM (Xk (rr h8 ⟨rfl, er0 _⟩))))))
 exact Zf (YQ (Zb (zg [0, 3, 7, 8] 1 (rn h9))))
 exact Xi (X8 (re h4 ⟨rfl, kc⟩))
 intro e12 s13 o14
 rcases y3 with g4 | y5
 have h15 := VW h11
 exact zi o14 (Za (zg [4] 0 (Zb (Zs (er1 h15)))))
 have h16 := VX h11
 obtain ⟨rfl, n18⟩ := o14
 refine JM (Xk ?_)
 obtain rfl := Option.some.inj h16
 exact n18
theorem Jx (a0 : List Je) (a1 : Je) (r : Bool) (h : M.Z1 a0 a1 = some r) : Fn Tryz.prog 54 [sL 2 Xz a0, .agg (Xz a1)] (.pure (.bool r)) := by
 unfold M.Z1 at h
 refine ZR Tryz.func54 rfl (by kernel_rfl) (Za (zg [0, 3] 1 (Zb (Za ?_))))
 obtain ⟨r1, q1, h2⟩ := bind_some h
 exact zr [4] 0 ZA (rq1 (JL _ _ _ q1) rqn) (Zb (Zs (er1 h2)))
theorem WH (a0 : Jq) (a1 : Int) (a2 : Int) (r : Int) (h : M.Y4 a0 a1 a2 = some r) : Fn Tryz.prog 25 [.agg (Js a0), .int .i64 a1, .int .i64 a2] (.pure (.int .i64 r)) := by
 unfold M.Y4 at h
 refine ZR Tryz.func25 rfl (by kernel_rfl) (Za (zg [1, 2, 3] 1 (Zb (Za (zg [3, 7] 2 (Zb (Za (Za (zg [7, 15, 16, 17] 2 (Zb (Zt ?_)))))))))))
 obtain ⟨y4, q12, h13⟩ := bind_some h
 refine zl (fun (p1 : Int) => ⟨28, [(7, .ref 1 0), (15, sL 4 ZM a0.Qx.YI), (16, .int .i64 (a0.Qx.YI.length : Int)), (17, .int .i64 p1)], [.box (Js a0), .box [.int .i64 a1, .int .i64 a2]]⟩) (Sum.elim (fun z => OutE 0 (fun z => ⟨28, [], []⟩) z) (fun z => OutR Tryz.prog Tryz.f25 (.int .i64 z))) q12 ?_ ?_
 intro p1 y2 h1
 unfold M.Y3 at h1
 refine Za (zg [7, 15, 16, 17, 18] 2 (Zb (Za (cn h1 (fun _ h3 => ?_) (fun _ h4 => ?_)))))
 refine Zf (Zb (Za (Zt (Za ?_))))
 obtain ⟨c5, h6⟩ := ZP h3
 refine zc [7, 8, 9, 15, 16, 17] 3 c5 (Zb (Za ?_))
 obtain ⟨r3, q7, h8⟩ := bind_some h6
 refine zr [7, 8, 15, 16, 17, 25] 2 ZA (rq1 (Jx _ _ _ q7) rqn) (Zb (cn h8 (fun _ h10 => ?_) (fun _ h11 => ?_)))
 exact Za (zg [6] 0 (Zb (Zs (JM (Xk (rr h10 ⟨rfl, er0 _⟩))))))
 exact Zf (YQ (Zb (zg [7, 15, 16, 17] 2 (rn h11))))
 exact Xi (X8 (re h4 ⟨rfl, kc⟩))
 intro e14 s15 o16
 rcases y4 with g5 | y6
 have h17 := VW h13
 refine zi o16 (Za ?_)
 cases h17
 have h18 := VX h13
 obtain ⟨rfl, n20⟩ := o16
 refine JM (Xk ?_)
 obtain rfl := Option.some.inj h18
 exact n20
theorem JA (a0 : List Int) (a1 : Int) (r : Int) (h : M.Xm a0 a1 = some r) : Fn Tryz.prog 55 [sL 1 (ci .i64) a0, .int .i64 a1] (.pure (.int .i64 r)) := by
 unfold M.Xm at h
 refine ZR Tryz.func55 rfl (by kernel_rfl) (Za (zg [0, 1] 0 (Zb (Za (Za (zg [0, 1, 7, 8] 0 (Zb (Zt ?_))))))))
 obtain ⟨y3, q10, h11⟩ := bind_some h
 refine zl (fun (p1 : Int) => ⟨19, [(0, sL 1 (ci .i64) a0), (1, .int .i64 a1), (7, .int .i64 (a0.length : Int)), (8, .int .i64 p1)], []⟩) (Sum.elim (fun z => OutE 0 (fun z => ⟨19, [], []⟩) z) (fun z => OutR Tryz.prog Tryz.f55 (.int .i64 z))) q10 ?_ ?_
 intro p1 y2 h1
 unfold M.XF at h1
 refine Za (zg [0, 1, 7, 8, 9] 0 (Zb (Za (cn h1 (fun _ h3 => ?_) (fun _ h4 => ?_)))))
 refine Zf (Zb (Za (Zt (Za (zg [0, 1, 5, 7, 8] 0 (Zb (Za ?_)))))))
 obtain ⟨c5, h6⟩ := ZP h3
 refine zc [0, 1, 5, 7, 8, 16] 0 c5 (Zb (cn h6 (fun _ h8 => ?_) (fun _ h9 => ?_)))
 exact Za (zg [4] 0 (Zb (Zs (JM (Xk (rr h8 ⟨rfl, er0 _⟩))))))
 exact Zf (YQ (Zb (zg [0, 1, 7, 8] 0 (rn h9))))
 exact Xi (X8 (re h4 ⟨rfl, kq⟩))
 intro e12 s13 o14
 rcases y3 with g4 | y5
 have h15 := VW h11
 exact zi o14 (Za (zg [4] 0 (Zb (Zs (er1 h15)))))
 have h16 := VX h11
 obtain ⟨rfl, n18⟩ := o14
 refine JM (Xk ?_)
 obtain rfl := Option.some.inj h16
 exact n18
theorem Rh (a0 : Jq) (a1 : Int) (a2 : Int) (r : Int) (h : M.Jh a0 a1 a2 = some r) : Fn Tryz.prog 27 [.agg (Js a0), .int .i64 a1, .int .i64 a2] (.pure (.int .i64 r)) := by
 unfold M.Jh at h
 refine ZR Tryz.func27 rfl (by kernel_rfl) (Za (zg [1, 2, 3] 1 (Zb (Za ?_))))
 obtain ⟨r1, q1, h2⟩ := bind_some h
 refine zr [3, 7] 1 ZA (rq1 (WH _ _ _ _ q1) rqn) (Zb (Za (Za (zg [3, 7, 13] 1 (Zb (cn h2 (fun _ h4 => ?_) (fun _ h5 => ?_)))))))
 refine Za ?_
 cases h4
 refine Zf (Zb (Za ?_))
 obtain ⟨r2, q6, h7⟩ := bind_some h5
 exact zr [6] 0 ZA (rq1 (JA _ _ _ q6) rqn) (Zb (Zs (er1 h7)))
theorem Vo (a0 : List Int) (a1 : Int) (r : Bool) (h : M.Xp a0 a1 = some r) : Fn Tryz.prog 56 [sL 1 (ci .i64) a0, .int .i64 a1] (.pure (.bool r)) := by
 unfold M.Xp at h
 refine ZR Tryz.func56 rfl (by kernel_rfl) (Za (zg [0, 1] 0 (Zb (Za ?_))))
 obtain ⟨r1, q1, h2⟩ := bind_some h
 exact zr [4] 0 ZA (rq1 (JA _ _ _ q1) rqn) (Zb (Zs (er1 h2)))
theorem Uj (a0 : Jq) (a1 : Int) (a2 : Int) (r : Bool) (h : M.Ji a0 a1 a2 = some r) : Fn Tryz.prog 29 [.agg (Js a0), .int .i64 a1, .int .i64 a2] (.pure (.bool r)) := by
 unfold M.Ji at h
 refine ZR Tryz.func29 rfl (by kernel_rfl) (Za (zg [1, 2, 3] 1 (Zb (Za (Za ?_)))))
 obtain ⟨r1, q1, h2⟩ := bind_some h
 refine zr [1, 2, 3, 12] 1 ZA (rq1 (WH _ _ _ _ q1) rqn) (Zb (cn h2 (fun _ h4 => ?_) (fun _ h5 => ?_)))
 refine Za ?_
 cases h4
 refine Zf (Zb (Za ?_))
 obtain ⟨r2, q6, h7⟩ := bind_some h5
 refine zr [3, 7] 1 ZA (rq1 (Rh _ _ _ _ q6) rqn) (Zb (Za ?_))
 obtain ⟨r3, q8, h9⟩ := bind_some h7
 exact zr [6] 0 ZA (rq2 (fun hg => Vo _ _ _ (Qj q8 hg)) rqn) (Zb (Zs (er1 h9)))
theorem Kn  (r : Bool) (h : M.YU  = some r) : Fn Tryz.prog 15 [] (.pure (.bool r)) := by
 unfold M.YU at h
 refine ZR Tryz.func15 rfl (by kernel_rfl) (Za (zg [] 0 (Zb (Za ?_))))
 obtain ⟨r1, q1, h2⟩ := bind_some h
 let u1 := Xy r1
 obtain ⟨r2, q3, h4⟩ := bind_some h2
 refine rg [.pure (.agg u1), .pure (.tup [.agg (Js r2.1), .int .i64 r2.2])] [1, 2] 1 ⟨49, [(1, .ref 0 0), (2, .int .i64 r2.2)], [.box (Js r2.1)]⟩ [] [⟨true, 47, [], .pure (.agg u1)⟩, ⟨true, 16, [.agg u1, .nils], .pure (.tup [.agg (Js r2.1), .int .i64 r2.2])⟩] ZA ⟨fun _ => W0  r1 q1, fun _ => (US r1 ([] : List Int) r2 q3).args (.cons ASub.rfl (.cons Za9 .nil)), trivial⟩ (Zb (Za ?_))
 obtain ⟨r3, q5, h6⟩ := bind_some h4
 obtain ⟨r4, q7, h8⟩ := bind_some h6
 refine rg [.pure (.agg (Xy r3)), .pure (.tup [.agg (Js r4.1), .int .i64 r4.2])] [1, 2, 3, 4] 2 ⟨49, [(1, .ref 0 0), (2, .int .i64 r2.2), (3, .ref 1 0), (4, .int .i64 r4.2)], [.box (Js r2.1), .box (Js r4.1)]⟩ [] [⟨true, 47, [], .pure (.agg (Xy r3))⟩, ⟨true, 16, [.agg (Xy r3), .sl false 1 1 (fun i => List.take 1 (List.drop (i * 1) [.int .i64 0]))], .pure (.tup [.agg (Js r4.1), .int .i64 r4.2])⟩] ZA ⟨fun _ => W0  r3 q5, fun _ => (US r3 ([0] : List Int) r4 q7).args (.cons ASub.rfl (.cons (KX rfl (fun i hi => match i, hi with | 0, _ => rfl | n + 1, h => absurd h (by omega))) .nil)), trivial⟩ (Zb (Za ?_))
 obtain ⟨r5, q9, h10⟩ := bind_some h8
 obtain ⟨r6, q11, h12⟩ := bind_some h10
 obtain ⟨r7, q13, h14⟩ := bind_some h12
 exact zr [0] 0 ZA (rq2 (fun hg => Uj _ _ _ _ (Qj q9 hg)) (rq2 (fun hg => Uj _ _ _ _ (Qj q11 hg)) (rq2 (fun hg => Uj _ _ _ _ (Qj q13 hg)) rqn))) (Zb (Zs (er1 h14)))
theorem Wb (a0 : Int) (a1 : Int) (r : Bool) (h : M.QT a0 a1 = some r) : Fn Tryz.prog 6 [.int .i64 a0, .int .i64 a1] (.pure (.bool r)) := by
 unfold M.QT at h
 refine ZR Tryz.func6 rfl (by kernel_rfl) (Za (zg [0, 1] 0 (Zb (Za ?_))))
 obtain ⟨r1, q1, h2⟩ := bind_some h
 refine zr [0, 1, 5, 6] 0 ZA (rq1 (U7 _ _ _ q1) rqn) (Zb (Za ?_))
 obtain ⟨r2, q3, h4⟩ := bind_some h2
 refine zr [5, 6, 7, 8] 0 ZA (rq1 (UN _ _ _ q3) rqn) (Zb (Za (Za (zg [5, 7, 31] 0 (Zb (cn h4 (fun _ h6 => ?_) (fun _ h7 => ?_)))))))
 exact Za (zg [4] 0 (Zb (Zs (Xk (er1 h6)))))
 refine Zf (Zb (Za (Za (zg [5, 7, 9] 0 (Zb (Zt ?_))))))
 obtain ⟨y6, q19, h20⟩ := bind_some h7
 refine zl (fun (p3 : Int) => ⟨49, [(5, sL 1 (cl 1 (ci .i64)) r1.1), (7, sL 1 (cl 1 (ci .i64)) r2.1), (9, .int .i64 p3)], []⟩) (Sum.elim (fun z => OutE 0 (fun z => ⟨49, [], []⟩) z) (fun z => OutR Tryz.prog Tryz.f6 (.bool z))) q19 ?_ ?_
 intro p3 y4 h8
 unfold M.Yu at h8
 refine Za (Za (zg [5, 7, 9, 35] 0 (Zb (cn h8 (fun _ h10 => ?_) (fun _ h11 => ?_)))))
 refine Zf (Zb (Za (Zt (Za ?_))))
 obtain ⟨r5, q12, h13⟩ := bind_some h10
 obtain ⟨c14, h15⟩ := ZP h13
 refine zr [5, 7, 9, 47] 0 c14 (rq1 (Rg _ _ _ q12) rqn) (Zb (cn h15 (fun _ h17 => ?_) (fun _ h18 => ?_)))
 exact Za (zg [4] 0 (Zb (Zs (JM (Xk (rr h17 ⟨rfl, er0 _⟩))))))
 exact Zf (YQ (Zb (zg [5, 7, 9] 0 (rn h18))))
 exact Xi (X8 (re h11 ⟨rfl, kq⟩))
 intro e21 s22 o23
 rcases y6 with g7 | y8
 have h24 := VW h20
 refine zi o23 (Za ?_)
 obtain ⟨r9, q27, h28⟩ := bind_some h24
 exact rg [.pure (.bool r9)] [4] 0 ⟨49, [(4, .bool r9)], []⟩ [] [⟨true, 15, [], .pure (.bool r9)⟩] ZA ⟨fun _ => Kn  r9 q27, trivial⟩ (Zb (Zs (er1 h28)))
 have h25 := VX h20
 obtain ⟨rfl, n29⟩ := o23
 refine JM (Xk ?_)
 obtain rfl := Option.some.inj h25
 exact n29
end Nv
