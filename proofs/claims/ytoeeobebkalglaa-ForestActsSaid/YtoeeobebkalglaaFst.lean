/- A forest in memory; a walk of List, whatever is wanted. -/
import Derived.Test.YtoeeobebkalglaaEnt
import Derived.DeepKeys4
import Derived.ProofKit
namespace Go.Ease
structure FS where
  l : List Ent
  next : Int

structure FS.Ok (st : FS) : Prop where
  hnd : (st.l.map (fun e => e.h)).Nodup
  ord : st.l.Pairwise (fun a b => a.ord < b.ord)
  bnd : ∀ e ∈ st.l, 0 ≤ e.ord ∧ e.ord < st.next
  next : 0 ≤ st.next ∧ st.next ≤ 1000000
  len : st.l.length ≤ 1000000
  hok : ∀ e ∈ st.l, e.h.ok ∧ e.par.ok

def pairs (l : List Ent) : List (Value × Value) := l.map fun e => (e.h.v, e.v)

theorem sub_ord {l : List Ent} (h : l.Pairwise (fun a b => a.ord < b.ord)) (p : Ent → Bool) : (l.filter p).Pairwise (fun a b => a.ord < b.ord) := h.filter p
end Go.Ease

namespace Go.Proofs.Ytoeeobebkalglaa
open Go.RowKit Go.Ease

theorem laidOutAll : laidOutB Try.prog = true := by kernel_rfl
theorem hdWide : (match Try.prog.underlying 30 with | some (.array _ _) | some (.struct _) => true | _ => false) = true := by kernel_rfl
theorem hdRow : (30 : TypeId) < Try.prog.types.size := of_decide_eq_true (by kernel_rfl)
theorem hdDeep : Try.prog.keyType 30 = true := by kernel_rfl
theorem hdCells : Try.prog.cellsOf 30 = 2 := by kernel_rfl
theorem u64Cells : Try.prog.cellsOf 28 = 1 := by kernel_rfl

/-- The handle's key law. -/
theorem hdKeyed : Go.Maps.Keyed Try.prog 30 := Go.Maps.Keyed.of_law (deep_law_laid laidOutAll (m := 2) (by omega) hdRow (by kernel_rfl) hdWide)

theorem keyLits_u64 (d : Nat) {n : Int} (h : (Lit.int .u64 n).wf = true) : Try.prog.keyLits (d + 1) 28 [.int .u64 n] = some [.int .u64 n] := by
  simp [Program.keyLits, Try.underlying28, h]

theorem hdKey {h : Hd} (hk : h.ok) : ∃ l, keyOf Try.prog 30 h.v = some l := by
  obtain ⟨hi, lo⟩ := h
  obtain ⟨h1, h2, h3, h4⟩ := hk
  simp only at h1 h2 h3 h4
  have e1 : (Lit.int .u64 hi).wf = true := WalkArith.wf_u64 (by omega)
  have e2 : (Lit.int .u64 lo).wf = true := WalkArith.wf_u64 (by omega)
  have hf : Value.formed Try.prog 30 (.agg #[.int .u64 hi, .int .u64 lo]) = true := by
    simp [Value.formed, Try.underlying30, hdCells]
  have hl : ∃ a, Try.prog.keyLits (Try.prog.types.size + 1) 30 [.int .u64 hi, .int .u64 lo] = some a := by
    obtain ⟨m, hm⟩ : ∃ m, Try.prog.types.size = m + 1 := ⟨_, (by kernel_rfl : Try.prog.types.size = (Try.prog.types.size - 1) + 1)⟩
    rw [hm]
    refine ⟨[.int .u64 hi, .int .u64 lo], ?_⟩
    rw [Program.keyLits.eq_def]
    simp only [Try.underlying30, hdCells, List.length_cons, List.length_nil]
    simp [u64Cells, keyLits_u64 m e1, keyLits_u64 m e2]
  obtain ⟨a, ha⟩ := hl
  refine ⟨.string (keyBytes a), ?_⟩
  unfold keyOf
  simp only [Try.underlying30, Hd.v, hdDeep, hf, Bool.and_self, if_true]
  have : (Value.agg #[Value.int .u64 hi, Value.int .u64 lo]).cells.toList = [Value.int .u64 hi, Value.int .u64 lo] := by simp [Value.cells]
  rw [this, ha]; rfl

/-- The forest at p, its map at mb. -/
structure Fo (w : World) (p mb : Nat) (st : FS) : Prop where
  fb : w.heap[p]? = some (.cells #[.map (some mb), .int .i64 st.next] 64 (0, 0))
  mp : Mp Try.prog 30 w mb (pairs st.l)

theorem Fo.ne {w : World} {p mb : Nat} {st : FS} (h : Fo w p mb st) : p ≠ mb := by
  intro e
  obtain ⟨es, clock, hb, _⟩ := h.mp
  have := h.fb
  rw [e, hb] at this
  simp at this

theorem Fo.lt {w : World} {p mb : Nat} {st : FS} (h : Fo w p mb st) : p < w.heap.size := lt_of_block h.fb

theorem Fo.same {w w' : World} {p mb : Nat} {st : FS} (h : Fo w p mb st) (h1 : w'.heap[p]? = w.heap[p]?) (h2 : w'.heap[mb]? = w.heap[mb]?) : Fo w' p mb st :=
  ⟨h1.trans h.fb, h.mp.same h2⟩

theorem Fo.below {w w' : World} {p mb : Nat} {st : FS} (h : Fo w p mb st) (hb : Below w.heap.size w w') : Fo w' p mb st :=
  h.same (hb.block p h.lt) (hb.block mb h.mp.lt)

theorem Fo.cellp {w : World} {p mb : Nat} {st : FS} (h : Fo w p mb st) : w.cell? ⟨p, 0, none⟩ = some (.map (some mb)) ∧ w.cell? ⟨p, 1, none⟩ = some (.int .i64 st.next) ∧ ∀ j, w.frozen? ⟨p, j, none⟩ = false := by
  refine ⟨?_, ?_, fun j => frozen_of_row w p j _ _ h.fb⟩ <;> (rw [cell_of_row w p _ _ _ _ h.fb]; rfl)

end Go.Proofs.Ytoeeobebkalglaa
