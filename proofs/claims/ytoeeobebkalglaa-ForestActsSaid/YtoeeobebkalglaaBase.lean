/- Words on memory that no program stands in: what a step may have turned, slices that read as lists, rows of several cells. -/
import Derived.WalkKit
import Derived.WalkSpells
import Derived.Deep.QuietTactic
import Derived.BigQuiet
import Derived.Lib.Hide
import Derived.Deep.RegionHeld3
import Derived.Deep.DeepFit
import Derived.Deep.DeepMust
namespace Go.Ease
open Go.RowKit

/-! ### lists of rows -/

theorem flat_get {α β : Type} (k : Nat) (f : α → List β) (hf : ∀ a, (f a).length = k) : ∀ (l : List α) (i j : Nat), j < k →
    (l.flatMap f)[i * k + j]? = (l[i]?).bind fun a => (f a)[j]?
  | [], i, j, _ => by simp
  | a :: l, 0, j, hj => by
    simp only [List.flatMap_cons, Nat.zero_mul, Nat.zero_add, List.getElem?_cons_zero, Option.bind_some]
    rw [List.getElem?_append_left (by rw [hf]; exact hj)]
  | a :: l, i + 1, j, hj => by
    have h := flat_get k f hf l i j hj
    simp only [List.flatMap_cons, List.getElem?_cons_succ]
    rw [List.getElem?_append_right (by rw [hf, Nat.succ_mul]; omega), hf, ← h]
    congr 1
    rw [Nat.succ_mul]; omega

theorem flat_len {α β : Type} (k : Nat) (f : α → List β) (hf : ∀ a, (f a).length = k) : ∀ (l : List α), (l.flatMap f).length = l.length * k
  | [] => by simp
  | a :: l => by simp only [List.flatMap_cons, List.length_append, hf, flat_len k f hf l, List.length_cons, Nat.succ_mul]; omega

theorem flat_set {α β : Type} (k : Nat) (f : α → List β) (hf : ∀ a, (f a).length = k) : ∀ (l : List α) (i j : Nat) (a a' : α) (v : β), j < k →
    l[i]? = some a → f a' = (f a).set j v → (l.flatMap f).set (i * k + j) v = (l.set i a').flatMap f
  | [], i, j, a, a', v, _, h, _ => by simp at h
  | b :: l, 0, j, a, a', v, hj, h, he => by
    simp only [List.getElem?_cons_zero, Option.some.injEq] at h
    subst h
    simp only [List.flatMap_cons, Nat.zero_mul, Nat.zero_add, List.set_cons_zero]
    rw [List.set_append_left _ _ (by rw [hf]; exact hj), he]
  | b :: l, i + 1, j, a, a', v, hj, h, he => by
    have h' := flat_set k f hf l i j a a' v hj (by simpa using h) he
    simp only [List.flatMap_cons, List.set_cons_succ]
    rw [List.set_append_right _ _ (by rw [hf, Nat.succ_mul]; omega), hf, ← h']
    congr 2
    rw [Nat.succ_mul]; omega

theorem flat_take {α β : Type} (k : Nat) (f : α → List β) (hf : ∀ a, (f a).length = k) : ∀ (l : List α) (n : Nat), (l.flatMap f).take (n * k) = (l.take n).flatMap f
  | [], n => by simp
  | a :: l, 0 => by simp
  | a :: l, n + 1 => by
    simp only [List.flatMap_cons, List.take_succ_cons]
    rw [List.take_append, hf, Nat.succ_mul, List.take_of_length_le (by rw [hf]; omega), show n * k + k - k = n * k from by omega, flat_take k f hf l n]

/-! ### steps -/

/-- What a call may have done to a world: a block that was there and is not in F is as it was; none of those has come into F'. -/
structure Stp (F : Nat → Prop) (w w' : World) (F' : Nat → Prop) : Prop where
  os : w'.os = w.os
  tape : w'.tape = w.tape
  output : w'.output = w.output
  size : w.heap.size ≤ w'.heap.size
  block : ∀ k, k < w.heap.size → ¬ F k → w'.heap[k]? = w.heap[k]?
  mono : ∀ k, k < w.heap.size → F' k → F k

theorem Stp.refl (F : Nat → Prop) (w : World) : Stp F w w F := ⟨rfl, rfl, rfl, Nat.le_refl _, fun _ _ _ => rfl, fun _ _ h => h⟩

theorem Stp.trans {F F' F'' : Nat → Prop} {a b c : World} (h : Stp F a b F') (k : Stp F' b c F'') : Stp F a c F'' :=
  ⟨k.os.trans h.os, k.tape.trans h.tape, k.output.trans h.output, Nat.le_trans h.size k.size,
    fun i hi hn => (k.block i (Nat.lt_of_lt_of_le hi h.size) (fun hf => hn (h.mono i hi hf))).trans (h.block i hi hn),
    fun i hi hf => h.mono i hi (k.mono i (Nat.lt_of_lt_of_le hi h.size) hf)⟩

theorem Stp.of_below {F : Nat → Prop} {w w' : World} (h : Below w.heap.size w w') : Stp F w w' F :=
  ⟨h.os, h.tape, h.output, h.size, fun k hk _ => h.block k hk, fun _ _ hf => hf⟩

theorem Stp.alloc {F F' : Nat → Prop} {a w : World} (h : Stp F a w F') (o : Obj) : Stp F a (w.alloc o) F' :=
  ⟨h.os, h.tape, h.output, by have := h.size; simp; omega, fun k hk hn => by rw [Below.heap_alloc w o k (Nat.lt_of_lt_of_le hk h.size)]; exact h.block k hk hn, h.mono⟩

theorem Stp.drew {F F' : Nat → Prop} {a w : World} (h : Stp F a w F') : Stp F a w.drew F' := ⟨h.os, h.tape, h.output, h.size, h.block, h.mono⟩
theorem Stp.drewN {F F' : Nat → Prop} {a w : World} (h : Stp F a w F') (n : Nat) : Stp F a (w.drewN n) F' := ⟨h.os, h.tape, h.output, h.size, h.block, h.mono⟩

theorem Stp.setCell {F F' : Nat → Prop} {a w : World} (h : Stp F a w F') {p : Addr} (hp : p.block < a.heap.size → F p.block) (u : Value) : Stp F a (w.setCell p u) F' :=
  ⟨h.os, h.tape, h.output, by have := h.size; simp; omega,
    fun k hk hn => by
      rw [heap_setCell_other w p k u (fun e => hn (by subst e; exact hp hk))]
      exact h.block k hk hn, h.mono⟩

theorem Stp.grown {F F' : Nat → Prop} {a w w' : World} {row : Option Nat} (h : Stp F a w F') (hg : w.grownBy w' row) (hp : ∀ k, row = some k → k < a.heap.size → F k) : Stp F a w' F' :=
  ⟨hg.os.trans h.os, hg.tape.trans h.tape, hg.output.trans h.output, Nat.le_trans h.size hg.size,
    fun k hk hn => (hg.block k (Nat.lt_of_lt_of_le hk h.size) (fun e => hn (hp k e.symm hk))).trans (h.block k hk hn), h.mono⟩

/-- F' may be taken greater, by blocks that are new. -/
theorem Stp.wide {F F' F'' : Nat → Prop} {a w : World} (h : Stp F a w F') (hF : ∀ k, k < a.heap.size → F'' k → F' k) : Stp F a w F'' :=
  ⟨h.os, h.tape, h.output, h.size, h.block, fun k hk hf => h.mono k hk (hF k hk hf)⟩

theorem Stp.below {F F' : Nat → Prop} {a b w : World} (h : Stp F a b F') (hb : Below b.heap.size b w) : Stp F a w F' := h.trans (Stp.of_below hb)

/-! ### slices that read as lists -/

/-- A slice value of n elements, k cells each, that reads as the cells xs (nil, or a row). -/
def Rd (w : World) (k : Nat) (v : Value) (n : Nat) (xs : List Value) : Prop :=
  xs.length = n * k ∧ ((v = .slice none 0 0 ∧ n = 0) ∨
    ∃ g off cap, v = .slice (some ⟨g, off, none⟩) n cap ∧ n ≤ cap ∧ g < w.heap.size ∧ ∀ j u, xs[j]? = some u → w.cell? ⟨g, off + j, none⟩ = some u)

theorem Rd.of_owns {w : World} {base : Nat} {e : TypeId} {k : Nat} {v : Value} {n : Nat} {xs : List Value} (h : w.ownsRow base e k v n xs) : Rd w k v n xs := by
  refine ⟨h.1, ?_⟩
  rcases h.2 with ⟨rfl, rfl⟩ | ⟨g, cap, cur, rfl, _, hg, hn, _, hc, ht⟩
  · exact .inl ⟨rfl, rfl⟩
  · refine .inr ⟨g, 0, cap, rfl, hn, (Array.getElem?_eq_some_iff.1 hg).1, fun j u hu => ?_⟩
    rw [Nat.zero_add, cell_of_row w g j cur e (0, 0) hg]
    rw [← ht, List.getElem?_take] at hu
    split at hu
    · simpa using hu
    · cases hu

theorem Rd.same {w w' : World} {k : Nat} {v : Value} {n : Nat} {xs : List Value} (h : Rd w k v n xs) (hs : w.heap.size ≤ w'.heap.size) (hb : ∀ g, v.ownBlock = some g → w'.heap[g]? = w.heap[g]?) : Rd w' k v n xs := by
  refine ⟨h.1, ?_⟩
  rcases h.2 with hv | ⟨g, off, cap, rfl, hn, hg, hc⟩
  · exact .inl hv
  · refine .inr ⟨g, off, cap, rfl, hn, Nat.lt_of_lt_of_le hg hs, fun j u hu => ?_⟩
    rw [World.cell?_of_block (w := w) (a := ⟨g, off + j, none⟩) (hb g rfl)]
    exact hc j u hu

theorem Rd.stp {F F' : Nat → Prop} {w w' : World} {k : Nat} {v : Value} {n : Nat} {xs : List Value} (h : Rd w k v n xs) (hs : Stp F w w' F') (hb : ∀ g, v.ownBlock = some g → ¬ F g) : Rd w' k v n xs :=
  h.same hs.size fun g hg => hs.block g (by
    rcases h.2 with ⟨rfl, _⟩ | ⟨g', off, cap, rfl, _, hlt, _⟩
    · simp [Value.ownBlock] at hg
    · simp [Value.ownBlock] at hg; subst hg; exact hlt) (hb g hg)

theorem Rd.nil (w : World) (k : Nat) : Rd w k (.slice none 0 0) 0 [] := ⟨by simp, .inl ⟨rfl, rfl⟩⟩

theorem Rd.lt {w : World} {k : Nat} {v : Value} {n : Nat} {xs : List Value} (h : Rd w k v n xs) {g : Nat} (hg : v.ownBlock = some g) : g < w.heap.size := by
  rcases h.2 with ⟨rfl, _⟩ | ⟨g', off, cap, rfl, _, hlt, _⟩
  · simp [Value.ownBlock] at hg
  · simp [Value.ownBlock] at hg; subst hg; exact hlt

theorem owns_same {w w' : World} {base : Nat} {e : TypeId} {k : Nat} {v : Value} {n : Nat} {xs : List Value} (h : w.ownsRow base e k v n xs) (hb : ∀ g, v.ownBlock = some g → w'.heap[g]? = w.heap[g]?) : w'.ownsRow base e k v n xs := by
  refine ⟨h.1, ?_⟩
  rcases h.2 with hv | ⟨g, cap, cur, rfl, hbs, hg, r⟩
  · exact .inl hv
  · exact .inr ⟨g, cap, cur, rfl, hbs, by rw [hb g rfl]; exact hg, r⟩

theorem owns_stp {F F' : Nat → Prop} {w w' : World} {base : Nat} {e : TypeId} {k : Nat} {v : Value} {n : Nat} {xs : List Value} (h : w.ownsRow base e k v n xs) (hs : Stp F w w' F') (hb : ∀ g, v.ownBlock = some g → ¬ F g) : w'.ownsRow base e k v n xs :=
  owns_same h fun g hg => hs.block g (h.lt g hg).2 (hb g hg)

theorem owns_base {w : World} {base base' : Nat} {e : TypeId} {k : Nat} {v : Value} {n : Nat} {xs : List Value} (h : w.ownsRow base e k v n xs) (hb : base' ≤ base) : w.ownsRow base' e k v n xs := by
  refine ⟨h.1, ?_⟩
  rcases h.2 with hv | ⟨g, cap, cur, rfl, hbs, r⟩
  · exact .inl hv
  · exact .inr ⟨g, cap, cur, rfl, by omega, r⟩

/-- A slice value's shape, by looking. -/
theorem owns_form {w : World} {base : Nat} {e : TypeId} {k : Nat} {v : Value} {n : Nat} {xs : List Value} (h : w.ownsRow base e k v n xs) (h0 : 0 < n) :
    ∃ g cap, v = .slice (some ⟨g, 0, none⟩) n cap ∧ n ≤ cap ∧ cap ≤ maxLen ∧ base ≤ g ∧ g < w.heap.size ∧ (∀ j, j < n * k → w.cell? ⟨g, j, none⟩ = xs[j]?) ∧ (∀ j, w.frozen? ⟨g, j, none⟩ = false) := by
  rcases h.2 with ⟨rfl, hn⟩ | ⟨g, cap, cur, rfl, hb, hg, hn, hm, hc, ht⟩
  · omega
  · refine ⟨g, cap, rfl, hn, hm, hb, (Array.getElem?_eq_some_iff.1 hg).1, fun j hj => h.cellAt j hj, fun j => h.frozenAt j⟩

theorem owns_shape {w : World} {base : Nat} {e : TypeId} {k : Nat} {v : Value} {n : Nat} {xs : List Value} (h : w.ownsRow base e k v n xs) : ∃ a c, v = .slice a n c := by
  rcases h.2 with ⟨rfl, rfl⟩ | ⟨g, cap, cur, rfl, _⟩
  · exact ⟨_, _, rfl⟩
  · exact ⟨_, _, rfl⟩

theorem Rd.shape {w : World} {k : Nat} {v : Value} {n : Nat} {xs : List Value} (h : Rd w k v n xs) : ∃ a c, v = .slice a n c := by
  rcases h.2 with ⟨rfl, rfl⟩ | ⟨g, off, cap, rfl, _⟩
  · exact ⟨_, _, rfl⟩
  · exact ⟨_, _, rfl⟩

theorem below_block {W w : World} {b : Nat} {o : Obj} (h : Below W.heap.size W w) (hb : W.heap[b]? = some o) : w.heap[b]? = some o := by
  rw [h.block b (lt_of_block hb)]; exact hb

theorem below_undrew {W w : World} (h : Below W.drew.heap.size W.drew w) : Below W.heap.size W w := ⟨h.os, h.tape, h.output, h.size, h.block⟩

/-- The five words of a block, behind a step that leaves it. -/
theorem five_cells {w : World} {b : Nat} {c0 c1 c2 c3 c4 : Value} {t : TypeId} (h : w.heap[b]? = some (.cells #[c0, c1, c2, c3, c4] t (0, 0))) :
    w.cell? ⟨b, 0, none⟩ = some c0 ∧ w.cell? ⟨b, 1, none⟩ = some c1 ∧ w.cell? ⟨b, 2, none⟩ = some c2 ∧ w.cell? ⟨b, 3, none⟩ = some c3 ∧ w.cell? ⟨b, 4, none⟩ = some c4 ∧ ∀ j, w.frozen? ⟨b, j, none⟩ = false := by
  refine ⟨?_, ?_, ?_, ?_, ?_, fun j => frozen_of_row w b j _ _ h⟩ <;> (rw [cell_of_row w b _ _ _ _ h]; rfl)

theorem owns_drewN {w : World} {base : Nat} {e : TypeId} {k : Nat} {v : Value} {n : Nat} {xs : List Value} (h : w.ownsRow base e k v n xs) (m : Nat) : (w.drewN m).ownsRow base e k v n xs := h
theorem Rd.drewN {w : World} {k : Nat} {v : Value} {n : Nat} {xs : List Value} (h : Rd w k v n xs) (m : Nat) : Rd (w.drewN m) k v n xs := h

/-! ### values -/

/-- A value: its kind, number, bytes. -/
structure Val where
  kind : Int
  n : Int
  s : ByteArray

def Val.cells (v : Val) : List Value := [.int .u8 v.kind, .int .i64 v.n, .string v.s]
theorem Val.cells_len (v : Val) : v.cells.length = 3 := rfl
def valCells (l : List Val) : List Value := l.flatMap Val.cells
def intCells (l : List Int) : List Value := l.map (Value.int .i64)
theorem intCells_len (l : List Int) : (intCells l).length = l.length * 1 := by simp [intCells]
theorem valCells_len (l : List Val) : (valCells l).length = l.length * 3 := flat_len 3 _ Val.cells_len l
theorem intCells_one (l : List Int) : ∀ u ∈ intCells l, u.oneCell' = true := by
  intro u hu; simp [intCells] at hu; obtain ⟨x, _, rfl⟩ := hu; rfl
theorem valCells_one (l : List Val) : ∀ u ∈ valCells l, u.oneCell' = true := by
  intro u hu; simp [valCells, Val.cells] at hu; obtain ⟨x, _, rfl | rfl | rfl⟩ := hu <;> rfl

end Go.Ease
