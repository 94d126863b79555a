/- ForestActs for every list of acts: after each act the handles are the ones that the law's own model has, and the call returns true; the list reads as it did. -/
import Derived.Test.YtoeeobebkalglaaRows
import Derived.Test.YtoeeobebkalglaaFaw
import Derived.WalkKit
import Derived.ProofKit
import Derived.OpenShut
namespace Go.Proofs.Ytoeeobebkalglaa
open Go.ChangeShapes Go.WideShapes Go.ChangeAt Go.RowKit Go.Ease Go.Deep
theorem laidOutActs : laidOutB Try.prog = true := by kernel_rfl

/-- An act in memory. -/
theorem act_of2 {H : Type} {enc : TypeId × Value → H} {w : World} {sp : Nat → Bool} {hd : Bool} {m : Nat} {cs : List Value} {y : DataW H × List MemPlace} (h : DataW.trod enc Try.prog w 0 sp hd m 37 cs = some y) :
    ∃ x : Actv, cs = x.cells ∧ x.ok := by
  have hs := Try.underlying37
  have c := fun j f hj => trod_cell hs (by kernel_rfl) (by kernel_rfl) h j f hj
  obtain ⟨v0, z0, n0, hl, g0, t0⟩ := c 0 _ rfl
  obtain ⟨v1, z1, n1, -, g1, t1⟩ := c 1 _ rfl
  obtain ⟨v2, z2, n2, -, g2, t2⟩ := c 2 _ rfl
  obtain ⟨v3, z3, n3, -, g3, t3⟩ := c 3 _ rfl
  obtain ⟨v4, z4, n4, -, g4, t4⟩ := c 4 _ rfl
  obtain ⟨v5, z5, n5, -, g5, t5⟩ := c 5 _ rfl
  obtain ⟨v6, z6, n6, -, g6, t6⟩ := c 6 _ rfl
  obtain ⟨i0, e0, -, w0⟩ := DataW.trod_int Try.underlying5 t0
  obtain ⟨i1, e1, -, w1⟩ := DataW.trod_int Try.underlying3 t1
  obtain ⟨i2, e2, -, w2⟩ := DataW.trod_int Try.underlying3 t2
  obtain ⟨i3, e3, -, w3⟩ := DataW.trod_int Try.underlying33 t3
  obtain ⟨i4, e4, -, w4⟩ := DataW.trod_int Try.underlying33 t4
  obtain ⟨i5, e5, -, w5⟩ := DataW.trod_int Try.underlying5 t5
  obtain ⟨i6, e6, -, w6⟩ := DataW.trod_int Try.underlying3 t6
  simp only [List.cons.injEq, and_true] at e0 e1 e2 e3 e4 e5 e6
  subst e0 e1 e2 e3 e4 e5 e6
  refine ⟨⟨i0, i1, i2, i3, i4, i5, i6⟩, ?_, rng_u8 w0, rng_i64 w1, rng_i64 w2, rng_u32 w3, rng_u32 w4, rng_u8 w5, rng_i64 w6⟩
  match cs, hl with
  | [a0, a1, a2, a3, a4, a5, a6], _ =>
    simp only [List.getElem?_cons_zero, List.getElem?_cons_succ, Option.some.injEq] at g0 g1 g2 g3 g4 g5 g6
    subst g0 g1 g2 g3 g4 g5 g6
    rfl
end Go.Proofs.Ytoeeobebkalglaa
namespace Go.Proofs.Ytoeeobebkalglaa.forestActs
open Go.ChangeShapes Go.WideShapes Go.ChangeAt Go.RowKit Go.Ease
set_option linter.unusedVariables false

theorem own : ownKnob Try.prog.godebug = none := by kernel_rfl

set_option maxRecDepth 100000 in
theorem lifted (os : Os) (started : os.Started) (H : Type) (enc : TypeId × Value → H) :
    ReturnsInHanded {} Try.checked os 5 .any (Rows.forestActsSpec.pre6 enc Try.prog Try.f5 Rows.forestActsRow.domain false) (Rows.forestActsSpec.post enc Try.prog Try.f5 false true false false) := by
  refine returnsInHanded_of_change (C := Try.checked) own started (by kernel_rfl) Try.func5
    (ChangeSpec.witness6 (enc := enc) (C := Try.checked) false ⟨#[], #[.slice none 0 0], []⟩ 8 (by kernel_rfl) (by kernel_rfl) (by kernel_rfl) (by kernel_rfl)) ?_
  intro W base args ds gs before hval0 hW hcnd _
  have hval : ∀ (j : Nat) t v, Try.f5.params[j]? = some t → args[j]? = some v → Value.okWide Try.prog W .any base t v := hval0
  have hW' := hW
  obtain ⟨p, q, hA0, hV, rfl, hfz, hnd⟩ := hW
  have hA : DataW.TrodAll enc Try.prog W 0 (fun _ => true) true Try.f5.params.toList args.toList ds p := hA0
  rw [Try.params5] at hA hval
  obtain ⟨v0, vs0, d0, ds0, p0, q0, hargs, rfl, rfl, h0, r0⟩ := trodAll_cons hA
  obtain ⟨rfl, rfl, rfl⟩ := trodAll_nil r0
  obtain rfl : args = #[v0] := by cases args; simp_all
  obtain ⟨rfl, rfl⟩ := trodVars_none hV
  obtain ⟨va, vn, vc, rfl⟩ := okWide_slice Try.underlying22 (hval 0 22 v0 rfl rfl)
  have hlt : ∀ x ∈ p0, x.block < W.heap.size := fun x hx => hW'.lt x (by simpa using hx)
  obtain ⟨l, rfl, hra, hok, -⟩ := open_rows Try.underlying22 (by kernel_rfl : Try.prog.cellsOf 37 = 7) (by decide) h0 hlt Actv.cells Actv.cells_len Actv.ok (fun m cs y h => act_of2 h)
  clear hA0 hval0
  simp only [List.append_nil] at hW'
  refine (acts_true l hok hra).mono fun e W' ⟨he, hg⟩ => ?_
  subst he
  refine ⟨_, rfl, post_below hW' (fun b sp hd => trodAll_cons_mk (shut_bool Try.underlying4 _) trodAll_mk0) (trodAll_cons_mk (Below.trod laidOutActs (by kernel_rfl) (of_decide_eq_true (by kernel_rfl)) h0 hg hlt) trodAll_mk0) (pv := []) (fun sp => rfl) (by simp) hg rfl⟩

theorem over : Rows.forestActsRow.holds Try.pinned (OpenSpec.ofChange Rows.forestActsSpec) :=
  OpenClaim.holds_of_wide 5 Try.f5 rfl rfl rfl rfl rfl rfl rfl ⟨rfl, rfl, rfl, rfl, rfl⟩ rfl rfl rfl rfl rfl (by kernel_rfl) Try.func5 (by kernel_rfl)
    (of_decide_eq_true (by kernel_rfl)) (by unfold Func.isWrapper; first | (rw [if_pos (by decide +kernel)]; kernel_rfl) | (rw [if_neg (by decide +kernel)]; exact ⟨rfl, rfl⟩))
    (fun os started H enc _ => lifted os started H enc)

/-- The statement. -/
theorem proved : Rows.ForestActsSaid :=
  over
#print axioms proved
end Go.Proofs.Ytoeeobebkalglaa.forestActs
