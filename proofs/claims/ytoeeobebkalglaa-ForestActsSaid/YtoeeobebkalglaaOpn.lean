/- A slice argument, opened: it reads as the cells of a list, whatever its elements are; the last step of a row whose call has left all that was there. No program stands in it. -/
import Derived.Test.YtoeeobebkalglaaBase
import Derived.Deep.Slices
import Derived.Deep.Fields
import Derived.ChangeSame
import Derived.ProofKit
import Derived.Carry
namespace Go.Ease
open Go.RowKit Go.ChangeShapes Go.WideShapes Go.Deep

section
variable {H : Type} {enc : TypeId × Value → H} {P : Program} {w : World} {spare : Nat → Bool} {held : Bool}

/-- An int's range out of its form. -/
theorem rng_i64 {n : Int} (h : (Lit.int .i64 n).wf = true) : -9223372036854775808 ≤ n ∧ n < 9223372036854775808 := by
  simp [Lit.wf, IntKind.min, IntKind.max, IntKind.bits, IntKind.signed] at h; omega
theorem rng_u8 {n : Int} (h : (Lit.int .u8 n).wf = true) : 0 ≤ n ∧ n < 256 := by
  simp [Lit.wf, IntKind.min, IntKind.max, IntKind.bits, IntKind.signed] at h; omega
theorem rng_u32 {n : Int} (h : (Lit.int .u32 n).wf = true) : 0 ≤ n ∧ n < 4294967296 := by
  simp [Lit.wf, IntKind.min, IntKind.max, IntKind.bits, IntKind.signed] at h; omega
theorem rng_u64 {n : Int} (h : (Lit.int .u64 n).wf = true) : 0 ≤ n ∧ n < 18446744073709551616 := by
  simp [Lit.wf, IntKind.min, IntKind.max, IntKind.bits, IntKind.signed] at h; omega

/-- A list out of what is at each place. -/
theorem list_of {α : Type} (R : Nat → α → Prop) : ∀ (n : Nat), (∀ i, i < n → ∃ x, R i x) → ∃ l : List α, l.length = n ∧ ∀ i x, l[i]? = some x → R i x
  | 0, _ => ⟨[], rfl, fun i x h => by simp at h⟩
  | n + 1, h => by
    obtain ⟨l, hl, hr⟩ := list_of R n (fun i hi => h i (by omega))
    obtain ⟨x, hx⟩ := h n (by omega)
    refine ⟨l ++ [x], by simp [hl], fun i y hy => ?_⟩
    rw [List.getElem?_append] at hy
    split at hy
    · exact hr i y hy
    · have hil : i = n := by
        have := (List.getElem?_eq_some_iff.1 hy).1
        simp at this; omega
      subst hil
      simp [hl] at hy
      subst hy
      exact hx

/-- A slice that came in, of n elements, k cells each, that reads as the cells xs. -/
def Ra (w : World) (k : Nat) (v : Value) (n : Nat) (xs : List Value) : Prop :=
  xs.length = n * k ∧ (n = 0 ∨ ∃ g off cap, v = .slice (some ⟨g, off, none⟩) n cap ∧ n ≤ cap ∧ g < w.heap.size ∧ ∀ j u, xs[j]? = some u → w.cell? ⟨g, off + j, none⟩ = some u)

theorem Ra.same {w w' : World} {k : Nat} {v : Value} {n : Nat} {xs : List Value} (h : Ra w k v n xs) (hs : w.heap.size ≤ w'.heap.size) (hb : ∀ g, v.ownBlock = some g → w'.heap[g]? = w.heap[g]?) : Ra w' k v n xs := by
  refine ⟨h.1, ?_⟩
  rcases h.2 with hv | ⟨g, off, cap, rfl, hn, hg, hc⟩
  · exact .inl hv
  · refine .inr ⟨g, off, cap, rfl, hn, Nat.lt_of_lt_of_le hg hs, fun j u hu => ?_⟩
    rw [World.cell?_of_block (w := w) (a := ⟨g, off + j, none⟩) (hb g rfl)]
    exact hc j u hu

theorem Ra.below {w w' : World} {k : Nat} {v : Value} {n : Nat} {xs : List Value} (h : Ra w k v n xs) (hb : Below w.heap.size w w') : Ra w' k v n xs := by
  refine ⟨h.1, ?_⟩
  rcases h.2 with hv | ⟨g, off, cap, rfl, hn, hg, hc⟩
  · exact .inl hv
  · refine .inr ⟨g, off, cap, rfl, hn, Nat.lt_of_lt_of_le hg hb.size, fun j u hu => ?_⟩
    rw [World.cell?_of_block (w := w) (a := ⟨g, off + j, none⟩) (hb.block g hg)]
    exact hc j u hu

theorem Rd.ra {w : World} {k : Nat} {v : Value} {n : Nat} {xs : List Value} (h : Rd w k v n xs) : Ra w k v n xs :=
  ⟨h.1, h.2.imp (fun h => h.2) id⟩

/-- A slice argument whose elements are k cells each: it reads as the cells of a list. -/
theorem open_rows {t e : TypeId} {k : Nat} {a : Option Addr} {n c : Nat} {d : DataW H} {ps : List MemPlace} (ht : P.underlying t = some (.slice e)) (hC : P.cellsOf e = k) (hk : 0 < k)
    (h : DataW.Trod enc P w 0 spare held t (.slice a n c) d ps) (hlt : ∀ x ∈ ps, x.block < w.heap.size) {α : Type} (F : α → List Value) (hF : ∀ x, (F x).length = k) (R : α → Prop)
    (he : ∀ m cs y, DataW.trod enc P w 0 spare held m e cs = some y → ∃ x, cs = F x ∧ R x) :
    ∃ l : List α, l.length = n ∧ Ra w k (.slice a n c) n (l.flatMap F) ∧ (∀ x ∈ l, R x) ∧ n ≤ c := by
  obtain ⟨fuel, hf⟩ := h
  rcases open_slice ht hf with ⟨h0, _⟩ | ⟨a0, len, cap, m, n0, D, Pl, hcs, hb, hl, hm, hmm, hx, hi⟩
  · simp [Value.cells] at h0
    obtain ⟨rfl, rfl, rfl⟩ := h0
    exact ⟨[], rfl, (Rd.nil _ _).ra, (fun x hx => by cases hx), Nat.le_refl _⟩
  · simp [Value.cells] at hcs
    obtain ⟨rfl, rfl, rfl⟩ := hcs
    have hmn : n ≤ m := by rw [hmm]; split <;> omega
    rw [hC] at hi hx
    simp only [Prod.mk.injEq] at hx
    have hel : ∀ i, i < n → ∃ x, ((∀ j, j < k → w.cell? (a0.add (i * k + j)) = (F x)[j]?) ∧ R x) := fun i hin => by
      obtain ⟨cs', hc, ht'⟩ := hi i (by omega)
      obtain ⟨x, hx', hr⟩ := he _ _ _ ht'
      obtain ⟨_, _, hat⟩ := World.cells?_some hc
      refine ⟨x, fun j hj => ?_, hr⟩
      rw [← add_add, hat j hj, hx']
    obtain ⟨l, hll, hr⟩ := list_of _ n hel
    refine ⟨l, hll, ⟨by rw [flat_len k F hF, hll], ?_⟩, fun x hx => ?_, hl⟩
    · rcases Nat.eq_zero_or_pos n with hn | hn
      · exact .inl hn
      · obtain ⟨g, off, spot⟩ := a0
        obtain ⟨x0, hx0⟩ : ∃ x0, l[0]? = some x0 := ⟨l[0]'(by omega), List.getElem?_eq_getElem (by omega)⟩
        have h00 := (hr 0 x0 hx0).1 0 hk
        obtain ⟨u0, hu0⟩ : ∃ u0, (F x0)[0]? = some u0 := ⟨(F x0)[0]'(by rw [hF]; exact hk), List.getElem?_eq_getElem (by rw [hF]; exact hk)⟩
        rw [hu0] at h00
        have hspot : spot = none := by simpa [Addr.add] using World.cell?_spot h00
        subst hspot
        refine .inr ⟨g, off, c, rfl, hl, ?_, fun j u hu => ?_⟩
        · exact hlt (.cell g off) (by rw [hx.2]; refine List.mem_append_left _ ?_; unfold MemPlace.row; exact List.mem_map.2 ⟨0, List.mem_range.2 (by exact Nat.mul_pos (by omega) hk), by simp⟩)
        · have hjl : j < n * k := by have := (List.getElem?_eq_some_iff.1 hu).1; rwa [flat_len k F hF, hll] at this
          have hik : j / k < n := Nat.div_lt_of_lt_mul (by rw [Nat.mul_comm]; exact hjl)
          have hjk : j % k < k := Nat.mod_lt _ hk
          have hsp : j = j / k * k + j % k := by rw [Nat.mul_comm]; exact (Nat.div_add_mod j k).symm
          rw [hsp, flat_get k F hF l _ _ hjk] at hu
          obtain ⟨x, hx1, hx2⟩ := Option.bind_eq_some_iff.1 hu
          have h1 := (hr _ x hx1).1 _ hjk
          rw [← hsp, hx2] at h1
          have ha : (⟨g, off, none⟩ : Addr).add j = ⟨g, off + j, none⟩ := by
            unfold Addr.add
            split
            · rename_i h0; rw [h0, Nat.add_zero]
            · rfl
          rw [← h1, ha]
    · obtain ⟨i, hi', rfl⟩ := List.getElem_of_mem hx
      exact (hr i _ (List.getElem?_eq_getElem hi')).2

/-- A struct's reading: each field of one cell by itself. -/
theorem trod_cell {fs : Array Field} {t : TypeId} {m : Nat} {cs : List Value} {y : DataW H × List MemPlace} (ht : P.underlying t = some (.struct fs)) (hone : oneCellFields P fs = true) (hC : P.cellsOf t = fs.size)
    (h : DataW.trod enc P w 0 spare held m t cs = some y) (j : Nat) (f : Field) (hj : fs[j]? = some f) :
    ∃ (v : Value) (z : DataW H × List MemPlace) (n : Nat), cs.length = fs.size ∧ cs[j]? = some v ∧ DataW.trod enc P w 0 spare held n f.type [v] = some z := by
  obtain ⟨ys, n, _, _, hlen, hyl, hf⟩ := DataW.trod_struct ht h
  obtain ⟨ho, hk⟩ := hone_of hone j f hj
  have hjl : j < fs.size := (Array.getElem?_eq_some_iff.1 hj).1
  have h1 := hf j f hj
  rw [ho, hk] at h1
  have hone' : (cs.drop j).take 1 = [cs[j]'(by omega)] := by
    rw [List.drop_eq_getElem_cons (by omega)]
    rfl
  rw [hone', List.getElem?_eq_getElem (by omega)] at h1
  exact ⟨_, _, n, by rw [hlen, hC], List.getElem?_eq_getElem (by omega), h1⟩

/-- The row's last step: below the heap's old size nothing has turned. -/
theorem post_below {f : Func} {s : ChangeSpec} {apart fresh handsOn again : Bool} {W W' : World} {args : Array Value} {v : Value} {ds gs : List (DataW H)} {before pa pv : List MemPlace}
    (hW : DataW.Whole enc P f.params.toList s.vars apart W args.toList ds gs before)
    (hres : ∀ (b : Nat) (sp : Nat → Bool) (hd : Bool), DataW.TrodAll enc P W' b sp hd f.resultTypes.toList (v.resultList f.resultTypes.size) (s.fn H (ds ++ gs)).results [])
    (hargs : DataW.TrodAll enc P W' 0 (fun b => decide (b < W.heap.size)) true f.params.toList args.toList (s.fn H (ds ++ gs)).args pa)
    (hvars : ∀ sp : Nat → Bool, DataW.TrodVars enc P W' sp s.vars (s.fn H (ds ++ gs)).vars pv)
    (hps : before = pa ++ pv) (hb : Below W.heap.size W W') (hag : again = false) :
    s.post enc P f apart fresh handsOn again W args v W' := by
  have hlt : ∀ p ∈ before, p.block < W.heap.size := fun p hp => hW.lt p hp
  refine ⟨ds, gs, before, [], pa, pv, hW, hres _ _ _, hargs, hvars _, World.keptBut_mono (fun p hp => ⟨hp, ?_⟩) (hb.frame (· ∈ before)), fun h => by rw [hag] at h; cases h⟩
  rw [hps, List.mem_append] at hp
  exact Or.inr hp
end
end Go.Ease
