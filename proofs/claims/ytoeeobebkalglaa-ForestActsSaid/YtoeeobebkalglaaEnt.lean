/- Entries of a forest as values and cells; slices.SortFunc over them by their order. -/
import Derived.Test.YtoeeobebkalglaaMap
import Derived.Test.YtoeeobebkalglaaApp
import Derived.Test.YtoeeobebkalglaaProg
import Derived.Test.YtoeeobebkalglaaLap

namespace Go.Ease
structure Hd where
  hi : Int
  lo : Int
deriving DecidableEq, Inhabited

structure Ent where
  h : Hd
  obj : Int
  rts : Int
  own : Int
  par : Hd
  ord : Int
deriving DecidableEq, Inhabited

def Hd.v (h : Hd) : Value := .agg #[.int .u64 h.hi, .int .u64 h.lo]
def Ent.cells (e : Ent) : List Value := [.int .u64 e.h.hi, .int .u64 e.h.lo, .int .i64 e.obj, .int .u8 e.rts, .int .u32 e.own, .int .u64 e.par.hi, .int .u64 e.par.lo, .int .i64 e.ord]
def Ent.v (e : Ent) : Value := .agg e.cells.toArray
def Hd.ok (h : Hd) : Prop := 0 ≤ h.hi ∧ h.hi < 18446744073709551616 ∧ 0 ≤ h.lo ∧ h.lo < 18446744073709551616
theorem Ent.cells_len (e : Ent) : e.cells.length = 8 := rfl
def entCells (l : List Ent) : List Value := l.flatMap Ent.cells
theorem entCells_len (l : List Ent) : (entCells l).length = l.length * 8 := flat_len 8 _ Ent.cells_len l
theorem Hd.v_inj {a b : Hd} (h : a.v = b.v) : a = b := by
  cases a; cases b; simp [Hd.v] at h; simp [h]
theorem Ent.v_inj {a b : Ent} (h : a.v = b.v) : a = b := by
  obtain ⟨⟨_, _⟩, _, _, _, ⟨_, _⟩, _⟩ := a
  obtain ⟨⟨_, _⟩, _, _, _, ⟨_, _⟩, _⟩ := b
  simp [Ent.v, Ent.cells] at h; simp [h]

/-- Entries whose order is a number that can be subtracted. -/
def EntB : Type := { e : Ent // 0 ≤ e.ord ∧ e.ord < 4611686018427387904 }
instance : Inhabited EntB := ⟨⟨⟨⟨0, 0⟩, 0, 0, 0, ⟨0, 0⟩, 0⟩, by decide, by decide⟩⟩
def EntB.cells (e : EntB) : List Value := e.1.cells
def EntB.cf (x y : EntB) : Int := x.1.ord - y.1.ord
theorem pmap_val : ∀ (l : List Ent) (H : ∀ e ∈ l, 0 ≤ e.ord ∧ e.ord < 4611686018427387904), (l.pmap (fun e h => (⟨e, h⟩ : EntB)) H).map (fun x => x.1) = l
  | [], _ => rfl
  | a :: l, H => by
    simp only [List.pmap_cons, List.map_cons]
    rw [pmap_val l (fun e he => H e (List.mem_cons_of_mem _ he))]
theorem EntB.lt (x y : EntB) : Go.Proofs.ltOf EntB.cf x y = decide (x.1.ord < y.1.ord) := by
  unfold Go.Proofs.ltOf EntB.cf
  by_cases h : x.1.ord < y.1.ord
  · simp [h]; omega
  · simp [h]; omega
theorem EntB.swo : Go.Sort.SWO (Go.Proofs.ltOf EntB.cf) where
  irrefl x := by rw [EntB.lt]; simp
  trans x y z h1 h2 := by rw [EntB.lt] at *; simp at *; omega
  ntrans x y z h1 h2 := by rw [EntB.lt] at *; simp at *; omega

end Go.Ease

namespace Go.Proofs.Ytoeeobebkalglaa
open Go.RowKit Go.Ease

section
set_option maxHeartbeats 400000
theorem less1 (x y : EntB) (w : World) :
    Calls Try.prog 28 #[.agg x.cells.toArray, .agg y.cells.toArray] w fun e w' => e = .returned (.int .i64 (x.cf y)) ∧ ∃ q os', w' = Go.Sort.grow (w.drewN q) os' := by
  obtain ⟨⟨⟨xh, xl⟩, x2, x3, x4, ⟨x5, x6⟩, xo⟩, hx1, hx2⟩ := x
  obtain ⟨⟨⟨yh, yl⟩, y2, y3, y4, ⟨y5, y6⟩, yo⟩, hy1, hy2⟩ := y
  simp only at hx1 hx2 hy1 hy2
  show Calls Try.prog 28 #[.agg #[.int .u64 xh, .int .u64 xl, .int .i64 x2, .int .u8 x3, .int .u32 x4, .int .u64 x5, .int .u64 x6, .int .i64 xo], .agg #[.int .u64 yh, .int .u64 yl, .int .i64 y2, .int .u8 y3, .int .u32 y4, .int .u64 y5, .int .u64 y6, .int .i64 yo]] w fun e w' => e = .returned (.int .i64 (xo - yo)) ∧ ∃ q os', w' = Go.Sort.grow (w.drewN q) os'
  go_enter Try.func28, Try.ntmps28
  go_wp2
  go_ret
  refine ⟨?_, 0, _, by rw [Go.Sort.alloc_eq_grow, Go.Sort.alloc_eq_grow, Go.Sort.grow_grow]; rfl⟩
  go_num

theorem less2 (x y : EntB) (w : World) :
    Calls Try.prog 34 #[.agg x.cells.toArray, .agg y.cells.toArray] w fun e w' => e = .returned (.int .i64 (x.cf y)) ∧ ∃ q os', w' = Go.Sort.grow (w.drewN q) os' := by
  obtain ⟨⟨⟨xh, xl⟩, x2, x3, x4, ⟨x5, x6⟩, xo⟩, hx1, hx2⟩ := x
  obtain ⟨⟨⟨yh, yl⟩, y2, y3, y4, ⟨y5, y6⟩, yo⟩, hy1, hy2⟩ := y
  simp only at hx1 hx2 hy1 hy2
  show Calls Try.prog 34 #[.agg #[.int .u64 xh, .int .u64 xl, .int .i64 x2, .int .u8 x3, .int .u32 x4, .int .u64 x5, .int .u64 x6, .int .i64 xo], .agg #[.int .u64 yh, .int .u64 yl, .int .i64 y2, .int .u8 y3, .int .u32 y4, .int .u64 y5, .int .u64 y6, .int .i64 yo]] w fun e w' => e = .returned (.int .i64 (xo - yo)) ∧ ∃ q os', w' = Go.Sort.grow (w.drewN q) os'
  go_enter Try.func34, Try.ntmps34
  go_wp2
  go_ret
  refine ⟨?_, 0, _, by rw [Go.Sort.alloc_eq_grow, Go.Sort.alloc_eq_grow, Go.Sort.grow_grow]; rfl⟩
  go_num
end

theorem flatK_get (d : Array EntB) (j : Nat) (hj : j < d.size * 8) : (Go.Sort.flatK EntB.cells 8 d)[j]! = ((entCells (d.toList.map (·.1)))[j]?).getD default := by
  rw [Go.Sort.get_flatK _ _ _ _ hj]
  have e := flat_get 8 Ent.cells Ent.cells_len (d.toList.map (·.1)) (j / 8) (j % 8) (Nat.mod_lt _ (by omega))
  rw [show j / 8 * 8 + j % 8 = j by omega] at e
  have hd : j / 8 < d.size := by omega
  unfold entCells
  rw [e, List.getElem?_map, Array.getElem?_toList, Array.getElem?_eq_getElem hd, getElem!_pos d (j / 8) hd]
  simp only [Option.map_some, Option.bind_some]
  rw [List.getElem!_eq_getElem?_getD]
  rfl

theorem ord_inj {s : List Ent} (hs : s.Pairwise (fun a b => a.ord < b.ord)) {a c : Ent} (ha : a ∈ s) (hc : c ∈ s) (h : a.ord = c.ord) : a = c := by
  obtain ⟨i, hi, rfl⟩ := List.getElem_of_mem ha
  obtain ⟨j, hj, rfl⟩ := List.getElem_of_mem hc
  rw [List.pairwise_iff_getElem] at hs
  rcases Nat.lt_trichotomy i j with e | e | e
  · have := hs i j hi hj e; omega
  · subst e; rfl
  · have := hs j i hj hi e; omega

/-- slices.SortFunc by the order. -/
theorem sort_ents (g : Nat) (eg : ∀ args w, (callFunc g args).run Try.prog w = .ok (.enter g args) w)
    (hless : ∀ (x y : EntB) (w : World), Calls Try.prog g #[.agg x.cells.toArray, .agg y.cells.toArray] w fun e w' => e = .returned (.int .i64 (x.cf y)) ∧ ∃ q os', w' = Go.Sort.grow (w.drewN q) os')
    {w : World} {base : Nat} {sa : Option Addr} {cap : Nat} {l s : List Ent} (h : w.ownsRow base 35 8 (.slice sa l.length cap) l.length (entCells l)) (hp : s.Perm l)
    (hs : s.Pairwise (fun a b => a.ord < b.ord)) (hsmall : l.length ≤ 1000000) (hb : ∀ e ∈ s, 0 ≤ e.ord ∧ e.ord < 4611686018427387904) :
    Calls Try.prog 27 #[.slice sa l.length cap, .func (.func g) #[] #[]] w fun e w' => e = .returned (.tuple #[]) ∧
      Stp (fun k => (Value.slice sa l.length cap).ownBlock = some k) w w' (fun k => (Value.slice sa l.length cap).ownBlock = some k) ∧ Rd w' 8 (.slice sa l.length cap) l.length (entCells s) := by
  by_cases h0 : l.length = 0
  · have hl : l = [] := List.eq_nil_of_length_eq_zero h0
    subst hl
    have hs' : s = [] := hp.eq_nil
    subst hs'
    refine (AnyF.slices_SortFunc_none (P := Try.prog) (ρ := Try.sortEnt_ren) { Try.sortEnt with } sa cap (.func (.func g) #[] #[]) w).mono ?_
    rintro e w' ⟨rfl, rfl⟩
    exact ⟨rfl, Stp.refl _ _, Rd.of_owns h⟩
  · obtain ⟨b, cap', he, hcap, hmax, hbase, hlt, hcell, hfz⟩ := owns_form h (by omega)
    simp only [Value.slice.injEq] at he
    obtain ⟨rfl, _, rfl⟩ := he
    -- the elements, with their bounds
    have hbl : ∀ e ∈ l, 0 ≤ e.ord ∧ e.ord < 4611686018427387904 := fun e he => hb e (hp.mem_iff.2 he)
    let d : Array EntB := (l.pmap (fun e h => (⟨e, h⟩ : EntB)) hbl).toArray
    have hdl : d.toList.map (·.1) = l := pmap_val l hbl
    have hds : d.size = l.length := by rw [← Array.length_toList, ← List.length_map (f := fun x : EntB => x.1), hdl]
    have hH : Go.Sort.HoldsK EntB.cells 8 w b 0 d := by
      intro j hj
      rw [Go.Sort.size_flatK, hds] at hj
      refine ⟨?_, by rw [Nat.zero_add]; exact hfz j⟩
      rw [Nat.zero_add, hcell j hj, flatK_get d j (by rw [hds]; exact hj), hdl]
      have : j < (entCells l).length := by rw [entCells_len]; exact hj
      rw [List.getElem?_eq_getElem this]; rfl
    have hlen : l.length ≤ maxLen := by omega
    have hcon := AnyQ.slices_SortFunc Try.sortEnt 8 Try.isAgg35 Try.sizeOf35 EntB.cells (fun _ => rfl) (fun x v hv => by simp [EntB.cells, Ent.cells] at hv; rcases hv with rfl | rfl | rfl | rfl | rfl | rfl | rfl | rfl <;> rfl) EntB.cf EntB.swo g #[] b 0 cap d w eg (fun _ _ _ _ x y => hless x y _) hH hlt (by rw [hds]; omega)
    rw [hds] at hcon
    refine Calls.mono hcon ?_
    rintro e w' ⟨rfl, d', n, os, hpm, hsd, rfl⟩
    rw [← hds] at hpm hsd
    obtain ⟨hsz, _, hpe⟩ := hpm
    have hsz' : d'.size = d.size := hsz
    have hd' : d'.toList.map (·.1) = s := by
      have p1 : (d'.toList.map (·.1)).Perm l := by
        have : d'.toList.Perm d.toList := by
          have := hpe
          rw [← hsz'] at this
          rw [Array.extract_size] at this
          rw [hsz', Array.extract_size] at this
          exact this
        have := this.map (·.1)
        rwa [hdl] at this
      have p2 : (d'.toList.map (·.1)).Pairwise (fun a b => a.ord ≤ b.ord) := by
        rw [List.pairwise_map, List.pairwise_iff_getElem]
        intro i j hi hj hij
        have := hsd i j (Nat.zero_le _) hij (by rw [← hsz']; simpa using hj)
        rw [EntB.lt] at this
        have hi' : i < d'.size := by simpa using hi
        have hj' : j < d'.size := by simpa using hj
        rw [getElem!_pos d' i hi', getElem!_pos d' j hj'] at this
        simp at this
        simpa using this
      refine List.Perm.eq_of_pairwise ?_ p2 (hs.imp (fun h => Int.le_of_lt h)) (p1.trans hp.symm)
      intro a c ha hc h1 h2
      exact ord_inj hs ((p1.trans hp.symm).mem_iff.1 ha) hc (Int.le_antisymm h1 h2)
    have hw0 : Go.Sort.HoldsK EntB.cells 8 (Go.Sort.putRowK EntB.cells 8 (Go.Sort.ahead w n) b 0 d') b 0 d' := Go.Sort.holdsK_putRowK EntB.cells 8 (Go.Sort.ahead w n) b 0 d d' (Go.Sort.holdsK_ahead EntB.cells 8 w n b 0 d hH) hsz'
    have hsize : (Go.Proofs.sortWorldK EntB.cells 8 w b 0 n d' os).heap.size = w.heap.size + os.size := by
      simp only [Go.Proofs.sortWorldK, Go.Sort.grow, Array.size_append]
      congr 1
      exact Go.Sort.size_putRow _ _ _ _ _
    have hHd := Go.Sort.holdsK_grow (enc := EntB.cells) (k := 8) (Go.Sort.putRowK EntB.cells 8 (Go.Sort.ahead w n) b 0 d') os b 0 d' (by rw [show (Go.Sort.putRowK EntB.cells 8 (Go.Sort.ahead w n) b 0 d').heap.size = w.heap.size from Go.Sort.size_putRow _ _ _ _ _]; exact hlt) hw0
    refine ⟨rfl, ⟨rfl, rfl, rfl, by rw [hsize]; omega, ?_, fun _ _ h => h⟩, ?_, .inr ⟨b, 0, cap, rfl, hcap, by rw [hsize]; omega, ?_⟩⟩
    · intro k hk hn
      have hkb : k ≠ b := fun e => hn (by subst e; rfl)
      simp only [Go.Proofs.sortWorldK, Go.Sort.grow]
      rw [Array.getElem?_append_left (by rw [show (Go.Sort.putRowK EntB.cells 8 (Go.Sort.ahead w n) b 0 d').heap.size = w.heap.size from Go.Sort.size_putRow _ _ _ _ _]; exact hk)]
      simp only [Go.Sort.putRowK, Go.Sort.putRow, Go.Sort.mapBlock, Go.Sort.ahead, Array.getElem?_modify]
      rw [if_neg (fun e => hkb e.symm)]
    · rw [entCells_len, hp.length_eq]
    · intro j u hu
      have hj : j < d'.size * 8 := by
        rw [hsz', hds, ← hp.length_eq, ← entCells_len]
        exact (List.getElem?_eq_some_iff.1 hu).1
      have := (hHd j (by rw [Go.Sort.size_flatK]; exact hj)).1
      rw [flatK_get d' j hj, hd', hu] at this
      exact this

end Go.Proofs.Ytoeeobebkalglaa
