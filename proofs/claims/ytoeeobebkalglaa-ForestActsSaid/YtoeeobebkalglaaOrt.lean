/- A region that draws its order, walked along a tree: where more than one operation may come up next, one branch for each. -/
import Derived.Test.YtoeeobebkalglaaOrd
namespace Go.Ease
open Go

/-- A walk's tree: done; operation i only reads; operation i is carried out, or one of the others; no other. -/
inductive Pl where
  | done : Pl
  | pure (i : Nat) (rest : Pl) : Pl
  | act (i : Nat) (rest : Pl) (alt : Pl) : Pl
  | stop : Pl

def Pl.heads : Pl → List Nat
  | .act i _ alt => i :: alt.heads
  | _ => []

section
variable {P : Program} {ops : Array Oper} {Q : Exit → Act → World → Prop} {md : Region.Mode} {S : World → Prop} {t : Nat}

def wpPl (P : Program) (ops : Array Oper) (Q : Exit → Act → World → Prop) (t : Nat) (S : World → Prop) : Pl → Act → World → Prop
  | .done, a, w => Q .normal a w
  | .pure i rest, a, w => ∃ oi, ops[i]? = some oi ∧ ∃ v, YieldsIf P ops (fun w => i < t → S w) oi v a ∧ wpPl P ops Q t S rest (a.put oi.dst v) w
  | .act i rest alt, a, w => wpOp P ops Q i (fun a' w' => (i < t → S w') ∧ wpPl P ops Q t S rest a' w') a w ∧ wpPl P ops Q t S alt a w
  | .stop, _, _ => True

def plOk (md : Region.Mode) (ops : Array Oper) : Pl → Bool → Nat → Array Bool → Bool
  | .done, fresh, n, listed => fresh && n == 0 && (Region.ready md ops listed).isEmpty
  | .pure i rest, fresh, n, listed => fresh && decide (0 < n) && (Region.ready md ops listed).contains i && Region.free md ops listed i && plOk md ops rest true (n - 1) (listed.setIfInBounds i true)
  | .act i rest alt, fresh, n, listed => decide (0 < n) && (!fresh || (Region.ready md ops listed) == (i :: alt.heads)) && plOk md ops rest true (n - 1) (listed.setIfInBounds i true) && plOk md ops alt false n listed
  | .stop, fresh, _, _ => !fresh

theorem wpPl_sound (hsel : Region.noSelect ops = true) (hQ : ∀ c a (d : Option Tmp) v w, Q (.panic c) (a.put d v) w → Q (.panic c) a w) (hwt : waits md ops t = true) (htn : t ≤ ops.size) :
    ∀ (p : Pl) (n : Nat) (listed : Array Bool) (a : Act) (w : World), listed.size = ops.size → (S w ∨ full t listed = true) → wpPl P ops Q t S p a w →
      (plOk md ops p true n listed = true → wpAnyT P md ops Q t S n listed a w) ∧
      (∀ m, n = m + 1 → plOk md ops p false n listed = true → (∀ i ∈ p.heads, i ∈ Region.ready md ops listed) → ∀ i ∈ p.heads, wpOp P ops Q i (fun a' w' => (i < t → S w') ∧ wpAnyT P md ops Q t S m (listed.setIfInBounds i true) a' w') a w)
  | .done, n, listed, a, w, hsz, hS, h => by
    refine ⟨fun hok => ?_, fun m hm hok => ?_⟩
    · simp only [plOk, Bool.true_and, Bool.and_eq_true, beq_iff_eq] at hok
      rw [hok.1]
      exact ⟨by simpa using hok.2, h⟩
    · simp [plOk] at hok
  | .pure i rest, n, listed, a, w, hsz, hS, h => by
    refine ⟨fun hok => ?_, fun m hm hok => ?_⟩
    · simp only [plOk, Bool.true_and, Bool.and_eq_true, decide_eq_true_eq] at hok
      obtain ⟨oi, hi, v, hy, hr⟩ := h
      obtain ⟨m, rfl⟩ : ∃ m, n = m + 1 := ⟨n - 1, by omega⟩
      have hrd : i ∈ Region.ready md ops listed := by simpa using hok.1.1.2
      refine wpAnyT_first hi (Region.noSelect_spec hsel) (fun c a w => hQ c a oi.dst v w) hwt htn m listed a w hsz (Region.free_spec hi hok.1.2) hrd hy hS ?_
      exact (wpPl_sound hsel hQ hwt htn rest m _ _ w (by simpa using hsz) (hS.imp id full_set) hr).1 hok.2
    · simp [plOk] at hok
  | .act i rest alt, n, listed, a, w, hsz, hS, h => by
    have key : ∀ m, n = m + 1 → plOk md ops rest true (n - 1) (listed.setIfInBounds i true) = true → plOk md ops alt false n listed = true → (∀ j ∈ (Pl.act i rest alt).heads, j ∈ Region.ready md ops listed) → ∀ j ∈ (Pl.act i rest alt).heads, wpOp P ops Q j (fun a' w' => (j < t → S w') ∧ wpAnyT P md ops Q t S m (listed.setIfInBounds j true) a' w') a w := by
      intro m hm h1 h2 hin j hj
      subst hm
      simp only [Pl.heads, List.mem_cons] at hj hin
      rcases hj with rfl | hj
      · have hrd := hin j (.inl rfl)
        refine wpOp_mono (fun a' w' h' => ⟨h'.1, (wpPl_sound hsel hQ hwt htn rest m _ _ w' (by simpa using hsz) ?_ h'.2).1 h1⟩) h.1
        by_cases hjt : j < t
        · exact .inl (h'.1 hjt)
        · exact .inr (full_set (waits_full hwt hsz htn hrd (by omega)))
      · exact (wpPl_sound hsel hQ hwt htn alt (m + 1) listed a w hsz hS h.2).2 m rfl h2 (fun j hj => hin j (.inr hj)) j hj
    refine ⟨fun hok => ?_, fun m hm hok hin => ?_⟩
    · simp only [plOk, Bool.not_true, Bool.false_or, Bool.and_eq_true, decide_eq_true_eq, beq_iff_eq] at hok
      obtain ⟨m, rfl⟩ : ∃ m, n = m + 1 := ⟨n - 1, by omega⟩
      have hall : ∀ j ∈ (Pl.act i rest alt).heads, j ∈ Region.ready md ops listed := fun j hj => by rw [hok.1.1.2]; exact hj
      refine ⟨fun he => (by rw [hok.1.1.2] at he; cases he), fun j hj => ?_⟩
      rw [hok.1.1.2] at hj
      exact key m rfl hok.1.2 hok.2 hall j hj
    · simp only [plOk, Bool.not_false, Bool.true_or, Bool.and_true, Bool.and_eq_true, decide_eq_true_eq] at hok
      exact key m hm hok.1.2 hok.2 hin
  | .stop, n, listed, a, w, hsz, hS, h => by
    refine ⟨fun hok => by simp [plOk] at hok, fun m hm hok hin i hi => by simp [Pl.heads] at hi⟩

/-- A region that draws, along a tree. -/
theorem wp_region_pl {id : Nat} {l : List Oper} {a : Act} {w : World} (S : World → Prop) (t : Nat) (p : Pl) (hm : P.follows .mixedOrders = true)
    (hok : (Region.noSelect l.toArray && waits .any l.toArray t && decide (t ≤ l.length) && plOk .any l.toArray p true l.length (Array.replicate l.length false)) = true)
    (hQ : ∀ c a (d : Option Tmp) v w, Q (.panic c) (a.put d v) w → Q (.panic c) a w) (hS : S w.drew)
    (h : wpPl P l.toArray Q t S p a w.drew) : (Code.region id l.toArray true).wp P Q a w := by
  simp only [Bool.and_eq_true, decide_eq_true_eq] at hok
  obtain ⟨⟨⟨h1, h2⟩, h3⟩, h5⟩ := hok
  refine wp_region_any hm (wpAny_of_T (t := t) (S := S) _ _ _ _ ?_)
  have := (wpPl_sound (P := P) (Q := Q) (S := S) h1 hQ h2 (by simpa using h3) p l.length _ a w.drew (by simp) (.inl hS) h).1 h5
  simpa using this

variable {l : List Oper}

theorem wpPl_done {a : Act} {w : World} (h : Q .normal a w) : wpPl P ops Q t S .done a w := h
theorem wpPl_stop {a : Act} {w : World} : wpPl P ops Q t S .stop a w := trivial

theorem wpPl_read {i : Nat} {rest : Pl} {a : Act} {w : World} {oi : Oper} (hi : nth l i = some oi) (hw : Region.wanted oi (yielded l.toArray a.tmps) = true) (hit : i < t)
    (h : ∃ v, (∀ wq, S wq → (execOp a.eval oi).run P wq = .ok (.value v) wq) ∧ wpPl P l.toArray Q t S rest (a.put oi.dst v) w) : wpPl P l.toArray Q t S (.pure i rest) a w :=
  let ⟨v, hy, h⟩ := h
  ⟨oi, by rw [← nth_eq]; exact hi, v, .inl ⟨hw, fun wq hq => hy wq (hq hit)⟩, h⟩

theorem wpPl_pure {i : Nat} {rest : Pl} {a : Act} {w : World} {oi : Oper} (hi : nth l i = some oi) (hw : Region.wanted oi (yielded l.toArray a.tmps) = true)
    (h : ∃ v, (∀ wq, (execOp a.eval oi).run P wq = .ok (.value v) wq) ∧ wpPl P l.toArray Q t S rest (a.put oi.dst v) w) : wpPl P l.toArray Q t S (.pure i rest) a w :=
  let ⟨v, hy, h⟩ := h
  ⟨oi, by rw [← nth_eq]; exact hi, v, .inl ⟨hw, fun wq _ => hy wq⟩, h⟩

theorem wpPl_skip {i : Nat} {rest : Pl} {a : Act} {w : World} {oi : Oper} (hi : nth l i = some oi) (hw : Region.wanted oi (yielded l.toArray a.tmps) = false)
    (h : wpPl P l.toArray Q t S rest (a.put oi.dst undef) w) : wpPl P l.toArray Q t S (.pure i rest) a w :=
  ⟨oi, by rw [← nth_eq]; exact hi, undef, .inr ⟨hw, rfl⟩, h⟩

theorem wpPl_act {i : Nat} {rest alt : Pl} {a : Act} {w : World} {o : Oper} (hi : nth l i = some o) (_hit : i < t)
    (h : ∀ K : Act → World → Prop, (∀ a' w', S w' → (S w' → wpPl P l.toArray Q t S rest a' w') → K a' w') → wpList P l.toArray (Exit.then K Q) [o] a w) (h2 : wpPl P l.toArray Q t S alt a w) : wpPl P l.toArray Q t S (.act i rest alt) a w :=
  ⟨wpOp_of_list (by rw [← nth_eq]; exact hi) (h _ fun _ _ h1 h2 => ⟨fun _ => h1, h2 h1⟩), h2⟩

theorem wpPl_last {i : Nat} {rest alt : Pl} {a : Act} {w : World} {o : Oper} (hi : nth l i = some o) (hit : t ≤ i)
    (h : ∀ K : Act → World → Prop, (∀ a' w', wpPl P l.toArray Q t S rest a' w' → K a' w') → wpList P l.toArray (Exit.then K Q) [o] a w) (h2 : wpPl P l.toArray Q t S alt a w) : wpPl P l.toArray Q t S (.act i rest alt) a w :=
  ⟨wpOp_of_list (by rw [← nth_eq]; exact hi) (h _ fun _ _ h2 => ⟨fun h => absurd h (by omega), h2⟩), h2⟩
end
end Go.Ease
