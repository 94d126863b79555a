/- Plain law: what is under a handle, what is left when somebody leaves, and how the law's own model of handles reads. No program stands in it. -/
import Derived.Test.YtoeeobebkalglaaFrp
namespace Go.Ease
open Go.RowKit

theorem snocInd {α : Type} {P : List α → Prop} (h0 : P []) (h1 : ∀ l a, P l → P (l ++ [a])) (l : List α) : P l := by
  have h : ∀ r : List α, P r.reverse := by
    intro r
    induction r with
    | nil => exact h0
    | cons a r ih => rw [List.reverse_cons]; exact h1 _ _ ih
  have := h l.reverse
  rwa [List.reverse_reverse] at this

/-- No entry's parent comes behind it, or is itself. -/
def PF (L : List Ent) : Prop := L.Pairwise (fun a b => a.par ≠ b.h) ∧ ∀ e ∈ L, e.par ≠ e.h

theorem mem_grow1 {I : List Hd} {e : Ent} {x : Hd} : x ∈ grow1 I e ↔ x ∈ I ∨ (x = e.h ∧ e.par ∈ I) := by
  unfold grow1
  by_cases h1 : e.par ∈ I <;> by_cases h2 : e.h ∈ I <;> simp [h1, h2]
  · intro hx; subst hx; exact h2
  · constructor
    · rintro (h | h)
      · exact .inr h
      · exact .inl h
    · rintro (h | h)
      · exact .inr h
      · exact .inl h

theorem inSet_append (h : Hd) (L : List Ent) (e : Ent) : inSet h (L ++ [e]) = grow1 (inSet h L) e := by
  unfold inSet; rw [List.foldl_append]; rfl

theorem inSet_self (h : Hd) (L : List Ent) : h ∈ inSet h L := by
  induction L using snocInd with
  | h0 => simp [inSet]
  | h1 l a ih => rw [inSet_append, mem_grow1]; exact .inl ih

theorem mem_inSet (h : Hd) (L : List Ent) : PF L → ∀ x, x ∈ inSet h L ↔ x = h ∨ ∃ e ∈ L, e.h = x ∧ e.par ∈ inSet h L := by
  induction L using snocInd with
  | h0 => intro _ x; simp [inSet]
  | h1 l a ih =>
    intro hp x
    obtain ⟨hp1, hp2⟩ := hp
    rw [List.pairwise_append] at hp1
    have ih' := ih ⟨hp1.1, fun e he => hp2 e (List.mem_append_left _ he)⟩
    have hno : ∀ e ∈ l, e.par ≠ a.h := fun e he => hp1.2.2 e he a (by simp)
    have haa : a.par ≠ a.h := hp2 a (by simp)
    rw [inSet_append, mem_grow1, ih' x]
    constructor
    · rintro ((h1 | ⟨e, he, h2, h3⟩) | ⟨h1, h2⟩)
      · exact .inl h1
      · exact .inr ⟨e, List.mem_append_left _ he, h2, mem_grow1.2 (.inl h3)⟩
      · exact .inr ⟨a, by simp, h1.symm, mem_grow1.2 (.inl h2)⟩
    · rintro (h1 | ⟨e, he, h2, h3⟩)
      · exact .inl (.inl h1)
      · rw [mem_grow1] at h3
        rcases List.mem_append.1 he with he | he
        · rcases h3 with h3 | ⟨h3, _⟩
          · exact .inl (.inr ⟨e, he, h2, h3⟩)
          · exact absurd h3 (hno e he)
        · simp only [List.mem_singleton] at he
          subst he
          rcases h3 with h3 | ⟨h3, _⟩
          · exact .inr ⟨h2.symm, h3⟩
          · exact absurd h3 haa

theorem inSet_least (h : Hd) (C : Hd → Prop) (hh : C h) (L : List Ent) : (∀ e ∈ L, C e.par → C e.h) → ∀ x ∈ inSet h L, C x := by
  induction L using snocInd with
  | h0 => intro _ x hx; simp [inSet] at hx; subst hx; exact hh
  | h1 l a ih =>
    intro hc x hx
    have ih' := ih (fun e he => hc e (List.mem_append_left _ he))
    rw [inSet_append, mem_grow1] at hx
    rcases hx with hx | ⟨rfl, hx⟩
    · exact ih' x hx
    · exact hc a (by simp) (ih' _ hx)

theorem inSet_closed {h : Hd} {L : List Ent} (hp : PF L) {e : Ent} (he : e ∈ L) (hx : e.par ∈ inSet h L) : e.h ∈ inSet h L :=
  (mem_inSet h L hp e.h).2 (.inr ⟨e, he, rfl, hx⟩)

theorem inSet_filter (h : Hd) (D : Hd → Bool) (L : List Ent) : (∀ e ∈ L, D e.par = true → D e.h = true) → ∀ x, D x = false → (x ∈ inSet h (L.filter (fun e => !D e.h)) ↔ x ∈ inSet h L) := by
  induction L using snocInd with
  | h0 => intro _ x _; rfl
  | h1 l a ih =>
    intro hc x hx
    have ih' := ih (fun e he => hc e (List.mem_append_left _ he))
    rw [List.filter_append]
    cases ha : D a.h with
    | true =>
      have e1 : [a].filter (fun e => !D e.h) = [] := by simp [ha]
      rw [e1, List.append_nil, inSet_append, mem_grow1, ih' x hx]
      constructor
      · exact .inl
      · rintro (h1 | ⟨h1, _⟩)
        · exact h1
        · rw [h1, ha] at hx; cases hx
    | false =>
      have e1 : [a].filter (fun e => !D e.h) = [a] := by simp [ha]
      have hpd : D a.par = false := by
        cases hd : D a.par with
        | false => rfl
        | true => have := hc a (by simp) hd; rw [ha] at this; cases this
      rw [e1, inSet_append, inSet_append, mem_grow1, mem_grow1, ih' x hx, ih' _ hpd]

/-! ### what holds of handles at any time -/
structure MInv (k : Nat) (st : FS) : Prop where
  ok : st.Ok
  nx : st.next ≤ k
  ln : st.l.length ≤ k
  hs : ∀ e ∈ st.l, e.h.hi = 0 ∧ 1 ≤ e.h.lo ∧ e.h.lo ≤ 11 ∧ e.par.hi = 0 ∧ 0 ≤ e.par.lo ∧ e.par.lo ≤ 11 ∧ 0 ≤ e.rts ∧ e.rts ≤ 31
  par : ∀ e ∈ st.l, e.par.lo = 0 ∨ ∃ p ∈ st.l, p.h = e.par ∧ p.ord < e.ord

theorem FS.Ok.uniq {st : FS} (h : st.Ok) {a b : Ent} (ha : a ∈ st.l) (hb : b ∈ st.l) (he : a.h = b.h) : a = b := by
  have h1 := FS.find_mem h ha
  have h2 := FS.find_mem h hb
  rw [he, h2] at h1
  exact (Option.some.inj h1).symm

theorem MInv.pf {k : Nat} {st : FS} (h : MInv k st) : PF st.l := by
  have key : ∀ a ∈ st.l, ∀ b ∈ st.l, a.ord ≤ b.ord → a.par ≠ b.h := fun a ha b hb hab he => by
    rcases h.par a ha with h0 | ⟨p, hp, hph, hpo⟩
    · have := h.hs b hb
      rw [he] at h0
      omega
    · have := h.ok.uniq hp hb (hph.trans he)
      subst this
      omega
  refine ⟨?_, fun e he => key e he e he (Int.le_refl _)⟩
  have := h.ok.ord
  rw [List.pairwise_iff_getElem] at this ⊢
  intro i j hi hj hij
  exact key _ (List.getElem_mem hi) _ (List.getElem_mem hj) (Int.le_of_lt (this i j hi hj hij))

theorem MInv.mono {k k' : Nat} {st : FS} (h : MInv k st) (hk : k ≤ k') : MInv k' st := { h with nx := by have := h.nx; omega, ln := by have := h.ln; omega }

theorem FS.Ok.filter {st : FS} (h : st.Ok) (p : Ent → Bool) : FS.Ok ⟨st.l.filter p, st.next⟩ where
  hnd := by
    have := h.hnd
    rw [List.Nodup, List.pairwise_map] at this ⊢
    exact this.filter _
  ord := h.ord.filter _
  bnd := fun e he => h.bnd e (List.mem_filter.1 he).1
  next := h.next
  len := Nat.le_trans (List.length_filter_le _ _) h.len
  hok := fun e he => h.hok e (List.mem_filter.1 he).1

theorem MInv.filter {k : Nat} {st : FS} (h : MInv k st) (D : Hd → Bool) (hD : ∀ e ∈ st.l, D e.par = true → D e.h = true) : MInv k ⟨st.l.filter (fun e => !D e.h), st.next⟩ where
  ok := h.ok.filter _
  nx := h.nx
  ln := Nat.le_trans (List.length_filter_le _ _) h.ln
  hs := fun e he => h.hs e (List.mem_filter.1 he).1
  par := fun e he => by
    obtain ⟨he1, he2⟩ := List.mem_filter.1 he
    rcases h.par e he1 with h0 | ⟨p, hp, hph, hpo⟩
    · exact .inl h0
    · refine .inr ⟨p, List.mem_filter.2 ⟨hp, ?_⟩, hph, hpo⟩
      cases hd : D p.h with
      | false => rfl
      | true =>
        rw [hph] at hd
        have := hD e he1 hd
        rw [this] at he2
        cases he2

theorem MInv.rev {k : Nat} {st : FS} (h : MInv k st) (hd : Hd) : MInv k (st.rev hd) := by
  have := h.filter (fun x => decide (x ∈ inSet hd st.l)) (fun e he hx => by simp only [decide_eq_true_eq] at hx ⊢; exact inSet_closed h.pf he hx)
  exact this

theorem MInv.root {k : Nat} {st : FS} (h : MInv k st) (hk : k ≤ 1000) (n obj rts own : Int) (hn : 1 ≤ n ∧ n ≤ 11) (hr : 0 ≤ rts ∧ rts ≤ 31) (hf : (st.find ⟨0, n⟩).isSome = false) (par : Hd) (ord : Int) : MInv (k + 1) (st.root ⟨⟨0, n⟩, obj, rts, own, par, ord⟩) where
  ok := h.ok.root _ (by simp only [Hd.ok]; omega) hf (by have := h.nx; omega) (by have := h.ln; omega)
  nx := by have := h.nx; simp only [FS.root]; omega
  ln := by have := h.ln; simp only [FS.root, List.length_append, List.length_cons, List.length_nil]; omega
  hs := fun e he => by
    simp only [FS.root, List.mem_append, List.mem_singleton] at he
    rcases he with he | rfl
    · exact h.hs e he
    · exact ⟨rfl, hn.1, hn.2, rfl, by simp only; omega, by simp only; omega, hr.1, hr.2⟩
  par := fun e he => by
    simp only [FS.root, List.mem_append, List.mem_singleton] at he ⊢
    rcases he with he | rfl
    · rcases h.par e he with h0 | ⟨p, hp, h1⟩
      · exact .inl h0
      · exact .inr ⟨p, .inl hp, h1⟩
    · exact .inl rfl

theorem MInv.dele {k : Nat} {st : FS} (h : MInv k st) (hk : k ≤ 1000) {p : Ent} (hp : p ∈ st.l) (n obj rts own : Int) (hn : 1 ≤ n ∧ n ≤ 11) (hr : 0 ≤ rts ∧ rts ≤ 31) (hf : (st.find ⟨0, n⟩).isSome = false) : MInv (k + 1) (st.dele p.h ⟨0, n⟩ obj rts own) where
  ok := h.ok.dele _ _ _ _ _ (h.ok.hok p hp).1 (by simp only [Hd.ok]; omega) hf (by have := h.nx; omega) (by have := h.ln; omega)
  nx := by have := h.nx; simp only [FS.dele]; omega
  ln := by have := h.ln; simp only [FS.dele, List.length_append, List.length_cons, List.length_nil]; omega
  hs := fun e he => by
    simp only [FS.dele, List.mem_append, List.mem_singleton] at he
    rcases he with he | rfl
    · exact h.hs e he
    · have := h.hs p hp
      exact ⟨rfl, hn.1, hn.2, this.1, by simp only; omega, by simp only; omega, hr.1, hr.2⟩
  par := fun e he => by
    simp only [FS.dele, List.mem_append, List.mem_singleton] at he ⊢
    rcases he with he | rfl
    · rcases h.par e he with h0 | ⟨q, hq, h1⟩
      · exact .inl h0
      · exact .inr ⟨q, .inl hq, h1⟩
    · exact .inr ⟨p, .inl hp, rfl, (h.ok.bnd p hp).2⟩

/-! ### Leave -/
theorem leaveN_append (st : FS) (l : List Ent) (y : Ent) : st.leaveN (l ++ [y]) = (((st.leaveN l).1.step y.h).1, (st.leaveN l).2 ++ ((st.leaveN l).1.step y.h).2) := by
  unfold FS.leaveN
  rw [List.foldl_append]
  rfl

/-- What is under one of some. -/
def dead (L own : List Ent) (x : Hd) : Bool := own.any fun y => decide (x ∈ inSet y.h L)

theorem dead_closed {L own : List Ent} (hp : PF L) : ∀ e ∈ L, dead L own e.par = true → dead L own e.h = true := by
  intro e he h
  simp only [dead, List.any_eq_true, decide_eq_true_eq] at h ⊢
  obtain ⟨y, hy, hx⟩ := h
  exact ⟨y, hy, inSet_closed hp he hx⟩

theorem leaveN_left {k : Nat} {st : FS} (h : MInv k st) (pre : List Ent) : (∀ y ∈ pre, y ∈ st.l) → (st.leaveN pre).1 = ⟨st.l.filter (fun e => !dead st.l pre e.h), st.next⟩ := by
  induction pre using snocInd with
  | h0 =>
    intro _
    have : st.l.filter (fun e => !dead st.l [] e.h) = st.l := List.filter_eq_self.2 (fun _ _ => rfl)
    rw [this]; rfl
  | h1 l y ih =>
    intro hm
    have hy := hm y (by simp)
    rw [leaveN_append, ih (fun z hz => hm z (List.mem_append_left _ hz))]
    simp only
    have hd : ∀ x, dead st.l (l ++ [y]) x = (dead st.l l x || decide (x ∈ inSet y.h st.l)) := fun x => by simp [dead, List.any_append]
    by_cases hdy : dead st.l l y.h = true
    · have hns : (FS.find ⟨st.l.filter (fun e => !dead st.l l e.h), st.next⟩ y.h).isSome = false := by
        cases hf : FS.find ⟨st.l.filter (fun e => !dead st.l l e.h), st.next⟩ y.h with
        | none => rfl
        | some e =>
          obtain ⟨he, hh⟩ := FS.find_some hf
          have := (List.mem_filter.1 he).2
          rw [hh, hdy] at this
          cases this
      unfold FS.step
      rw [if_neg (by rw [hns]; decide)]
      simp only
      congr 1
      refine List.filter_congr fun e he => ?_
      rw [hd]
      have : decide (e.h ∈ inSet y.h st.l) = true → dead st.l l e.h = true := fun hx => by
        simp only [dead, List.any_eq_true, decide_eq_true_eq] at hx hdy ⊢
        obtain ⟨z, hz, hzy⟩ := hdy
        exact ⟨z, hz, inSet_least y.h (fun x => x ∈ inSet z.h st.l) hzy st.l (fun e he hx => inSet_closed h.pf he hx) _ hx⟩
      cases h1 : decide (e.h ∈ inSet y.h st.l) with
      | false => simp
      | true => rw [this h1]; rfl
    · have hdy' : dead st.l l y.h = false := by simpa using hdy
      have hys : (FS.find ⟨st.l.filter (fun e => !dead st.l l e.h), st.next⟩ y.h).isSome = true := by
        have := FS.find_mem (h.ok.filter (fun e => !dead st.l l e.h)) (e := y) (List.mem_filter.2 ⟨hy, by rw [hdy']; rfl⟩)
        rw [this]; rfl
      unfold FS.step
      rw [if_pos hys]
      simp only [FS.rev, FS.left]
      congr 1
      rw [List.filter_filter]
      refine List.filter_congr fun e he => ?_
      rw [hd]
      cases hde : dead st.l l e.h with
      | true => simp
      | false =>
        have := inSet_filter y.h (dead st.l l) st.l (dead_closed h.pf) e.h hde
        simp [this]

theorem MInv.leave {k : Nat} {st : FS} (h : MInv k st) (own : List Ent) (ho : ∀ y ∈ own, y ∈ st.l) : MInv k (st.leaveN own).1 := by
  rw [leaveN_left h own ho]
  exact h.filter _ (dead_closed h.pf)

theorem out_eq {k : Nat} {st : FS} (h : MInv k st) (own : List Ent) (ho : ∀ y ∈ own, y ∈ st.l) : st.out own = st.l.filter (fun e => dead st.l own e.h) := by
  unfold FS.out
  rw [leaveN_left h own ho]
  refine List.filter_congr fun e he => ?_
  simp only [List.mem_filter, he, true_and]
  cases dead st.l own e.h <;> simp

/-! ### the law's own model -/
structure One where
  n : Int
  par : Int
  obj : Int
  ord : Int
  rts : Int
  own : Int
def One.cells (x : One) : List Value := [.int .i64 x.n, .int .i64 x.par, .int .i64 x.obj, .int .i64 x.ord, .int .u8 x.rts, .int .u32 x.own]
theorem One.cells_len (x : One) : x.cells.length = 6 := rfl
def oneCells (l : List One) : List Value := l.flatMap One.cells
theorem oneCells_len (l : List One) : (oneCells l).length = l.length * 6 := flat_len 6 _ One.cells_len l
theorem oneCells_one (l : List One) : ∀ u ∈ oneCells l, u.oneCell' = true := by
  intro u hu; simp [oneCells, One.cells] at hu; obtain ⟨x, _, hx⟩ := hu; rcases hx with rfl | rfl | rfl | rfl | rfl | rfl <;> rfl
def One.of (e : Ent) : One := ⟨e.h.lo, e.par.lo, e.obj, e.ord, e.rts, e.own⟩
def ones (l : List Ent) : List One := l.map One.of
theorem ones_len (l : List Ent) : (ones l).length = l.length := by simp [ones]
theorem ones_get (l : List Ent) (k : Nat) : (ones l)[k]? = (l[k]?).map One.of := by simp [ones]
theorem ones_filter (l : List Ent) (p : Ent → Bool) (q : One → Bool) (h : ∀ e ∈ l, q (One.of e) = p e) : (ones l).filter q = ones (l.filter p) := by
  unfold ones
  rw [List.filter_map]
  congr 1
  exact List.filter_congr fun e he => h e he

theorem one_cells {w : World} {g off : Nat} {l : List One} (h : ∀ j u, (oneCells l)[j]? = some u → w.cell? ⟨g, off + j, none⟩ = some u) {k : Nat} {e : One} (hk : l[k]? = some e) :
    w.cell? ⟨g, off + k * 6, none⟩ = some (.int .i64 e.n) ∧ w.cell? ⟨g, off + k * 6 + 1, none⟩ = some (.int .i64 e.par) ∧ w.cell? ⟨g, off + k * 6 + 2, none⟩ = some (.int .i64 e.obj) ∧ w.cell? ⟨g, off + k * 6 + 3, none⟩ = some (.int .i64 e.ord) ∧
    w.cell? ⟨g, off + k * 6 + 4, none⟩ = some (.int .u8 e.rts) ∧ w.cell? ⟨g, off + k * 6 + 5, none⟩ = some (.int .u32 e.own) := by
  have e1 : ∀ c, c < 6 → (oneCells l)[k * 6 + c]? = e.cells[c]? := fun c hc => by
    unfold oneCells
    rw [flat_get 6 One.cells One.cells_len l k c hc, hk]; rfl
  have e2 : ∀ c u, c < 6 → e.cells[c]? = some u → w.cell? ⟨g, off + k * 6 + c, none⟩ = some u := fun c u hc hu => by
    rw [Nat.add_assoc]; exact h _ _ ((e1 c hc).trans hu)
  exact ⟨e2 0 _ (by omega) rfl, e2 1 _ (by omega) rfl, e2 2 _ (by omega) rfl, e2 3 _ (by omega) rfl, e2 4 _ (by omega) rfl, e2 5 _ (by omega) rfl⟩

/-- The first place at which f tells true; -1: there is none. -/
def placeOf {α : Type} (f : α → Bool) (l : List α) : Int := match l.findIdx? f with | some i => i | none => -1
def NoneB {α : Type} (f : α → Bool) (l : List α) (k : Nat) : Prop := ∀ j x, j < k → l[j]? = some x → f x = false
theorem NoneB.zero {α : Type} (f : α → Bool) (l : List α) : NoneB f l 0 := fun _ _ h => by omega
theorem NoneB.succ {α : Type} {f : α → Bool} {l : List α} {k : Nat} {x : α} (h : NoneB f l k) (hk : l[k]? = some x) (hx : f x = false) : NoneB f l (k + 1) := by
  intro j y hj hy
  by_cases hjk : j = k
  · subst hjk; rw [hk] at hy; cases hy; exact hx
  · exact h j y (by omega) hy
theorem placeOf_some {α : Type} {f : α → Bool} {l : List α} {k : Nat} {x : α} (h : NoneB f l k) (hk : l[k]? = some x) (hx : f x = true) : placeOf f l = k := by
  have h1 : l.findIdx? f = some k := by
    rw [List.findIdx?_eq_some_iff_getElem]
    obtain ⟨hlt, he⟩ := List.getElem?_eq_some_iff.1 hk
    refine ⟨hlt, by rw [he]; exact hx, fun j hj => ?_⟩
    have := h j l[j] hj (List.getElem?_eq_getElem (by omega))
    simp [this]
  unfold placeOf; rw [h1]
theorem placeOf_none {α : Type} {f : α → Bool} {l : List α} {n : Nat} (h : NoneB f l n) (hn : l.length ≤ n) : placeOf f l = -1 := by
  have h1 : l.findIdx? f = none := by
    rw [List.findIdx?_eq_none_iff]
    intro x hx
    obtain ⟨j, hj, rfl⟩ := List.getElem_of_mem hx
    exact h j _ (by omega) (List.getElem?_eq_getElem hj)
  unfold placeOf; rw [h1]
theorem placeOf_ge {α : Type} (f : α → Bool) (l : List α) : decide (0 ≤ placeOf f l) = l.any f := by
  unfold placeOf
  cases h : l.findIdx? f with
  | none =>
    rw [List.findIdx?_eq_none_iff] at h
    have : l.any f = false := by rw [List.any_eq_false]; intro x hx; simp [h x hx]
    rw [this]; rfl
  | some i =>
    rw [List.findIdx?_eq_some_iff_getElem] at h
    obtain ⟨hi, hf, _⟩ := h
    have : l.any f = true := List.any_eq_true.2 ⟨_, List.getElem_mem hi, hf⟩
    rw [this]; simp

/-- The place of a handle's number. -/
def atN (l : List Ent) (n : Int) : Int := placeOf (fun x : One => x.n == n) (ones l)

theorem atN_cases {k : Nat} {st : FS} (h : MInv k st) (n : Int) :
    (∃ (i : Nat) (e : Ent), atN st.l n = i ∧ st.l[i]? = some e ∧ st.find ⟨0, n⟩ = some e ∧ e.h = ⟨0, n⟩ ∧ e ∈ st.l) ∨ (atN st.l n = -1 ∧ st.find ⟨0, n⟩ = none) := by
  unfold atN placeOf
  cases hf : (ones st.l).findIdx? (fun x : One => x.n == n) with
  | some i =>
    rw [List.findIdx?_eq_some_iff_getElem] at hf
    obtain ⟨hi, hx, _⟩ := hf
    have hi' : i < st.l.length := by simpa [ones] using hi
    have he : st.l[i] ∈ st.l := List.getElem_mem hi'
    have hn : st.l[i].h.lo = n := by simpa [ones, One.of] using hx
    have hh : st.l[i].h = ⟨0, n⟩ := by
      have h0 := (h.hs _ he).1
      generalize st.l[i].h = q at *
      cases q; simp_all
    refine .inl ⟨i, st.l[i], rfl, List.getElem?_eq_getElem hi', ?_, hh, he⟩
    rw [← hh]; exact FS.find_mem h.ok he
  | none =>
    refine .inr ⟨rfl, ?_⟩
    rw [List.findIdx?_eq_none_iff] at hf
    cases hg : st.find ⟨0, n⟩ with
    | none => rfl
    | some e =>
      obtain ⟨he, hh⟩ := FS.find_some hg
      have := hf (One.of e) (List.mem_map.2 ⟨e, he, rfl⟩)
      simp [One.of, hh] at this

/-- Is a number's handle under another one? -/
def undr (L : List Ent) (n f : Int) : Bool := decide (n ≠ 0) && decide ((⟨0, n⟩ : Hd) ∈ inSet ⟨0, f⟩ L)

theorem undr_zero (L : List Ent) (f : Int) : undr L 0 f = false := by simp [undr]
theorem undr_self (L : List Ent) (f : Int) (hf : f ≠ 0) : undr L f f = true := by
  simp [undr, hf, inSet_self]
theorem undr_none {k : Nat} {st : FS} (h : MInv k st) {n f : Int} (hn : n ≠ f) (hf : st.find ⟨0, n⟩ = none) : undr st.l n f = false := by
  have : (⟨0, n⟩ : Hd) ∉ inSet ⟨0, f⟩ st.l := fun hx => by
    rcases (mem_inSet _ _ h.pf _).1 hx with h1 | ⟨e, he, h1, _⟩
    · exact hn (by cases h1; rfl)
    · exact FS.find_none hf e he h1
  simp [undr, this]
theorem undr_up {k : Nat} {st : FS} (h : MInv k st) {n f : Int} (hf : f ≠ 0) (hn : n ≠ f) (hn0 : n ≠ 0) {e : Ent} (he : e ∈ st.l) (hh : e.h = ⟨0, n⟩) : undr st.l n f = undr st.l e.par.lo f := by
  have hs := h.hs e he
  have hp : e.par = ⟨0, e.par.lo⟩ := by
    have h0 := hs.2.2.2.1
    generalize e.par = q at *
    cases q; simp_all
  have h1 : (⟨0, n⟩ : Hd) ∈ inSet ⟨0, f⟩ st.l ↔ e.par ∈ inSet ⟨0, f⟩ st.l := by
    constructor
    · intro hx
      rcases (mem_inSet _ _ h.pf _).1 hx with h1 | ⟨e', he', h1, h2⟩
      · exact absurd (by cases h1; rfl) hn
      · rwa [h.ok.uniq he he' (hh.trans h1.symm)]
    · intro hx
      rw [← hh]
      exact inSet_closed h.pf he hx
  by_cases h0 : e.par.lo = 0
  · have hno : (⟨0, n⟩ : Hd) ∉ inSet ⟨0, f⟩ st.l := fun hx => by
      have hx := h1.1 hx
      rw [hp, h0] at hx
      rcases (mem_inSet _ _ h.pf _).1 hx with h2 | ⟨e', he', h2, _⟩
      · exact hf (by cases h2; rfl)
      · have := h.hs e' he'
        rw [h2] at this
        simp at this
    rw [h0, undr_zero]
    simp [undr, hno]
  · unfold undr
    rw [← hp]
    simp [h1, hn0, h0]

/-- How far up it may go. -/
def height (st : FS) (n : Int) : Nat := match st.find ⟨0, n⟩ with | some e => e.ord.toNat + 1 | none => 0
theorem height_up {k : Nat} {st : FS} (h : MInv k st) {n : Int} {e : Ent} (hf : st.find ⟨0, n⟩ = some e) : e.par.lo ≠ 0 → height st e.par.lo < height st n := by
  intro h0
  obtain ⟨he, hh⟩ := FS.find_some hf
  rcases h.par e he with h1 | ⟨p, hp, hph, hpo⟩
  · exact absurd h1 h0
  · have hs := h.hs e he
    have hp' : e.par = ⟨0, e.par.lo⟩ := by
      have h0 := hs.2.2.2.1
      generalize e.par = q at *
      cases q; simp_all
    have := FS.find_mem h.ok hp
    rw [hph, hp'] at this
    have hb := h.ok.bnd p hp
    have hb2 := h.ok.bnd e he
    simp only [height, hf, this]
    omega
end Go.Ease
