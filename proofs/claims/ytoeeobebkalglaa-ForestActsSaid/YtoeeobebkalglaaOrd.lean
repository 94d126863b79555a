/- A region that draws its order, walked in ONE order: what only reads is carried out as soon as it may, the rest one behind the other; a condition on the world holds till the first t operations have come up. -/
import Derived.Test.YtoeeobebkalglaaBase
namespace Go.Ease
open Go

section
variable {P : Program} {ops : Array Oper} {Q : Exit → Act → World → Prop} {md : Region.Mode} {S : World → Prop} {t : Nat}

/-- The first t have all come up. -/
def full (t : Nat) (listed : Array Bool) : Bool := (List.range t).all fun i => listed.getD i true

theorem full_set {listed : Array Bool} {i : Nat} (h : full t listed = true) : full t (listed.setIfInBounds i true) = true := by
  simp only [full, List.all_eq_true, List.mem_range] at *
  intro j hj
  by_cases hij : i = j
  · subst hij
    by_cases hlt : i < listed.size <;> simp [hlt]
  · rw [getD_set_ne true hij]; exact h j hj

theorem full_not {listed : Array Bool} {i : Nat} {w : World} (hi : i < t) (h0 : listed.getD i true = false) (h : S w ∨ full t listed = true) : S w := by
  rcases h with h | h
  · exact h
  · simp only [full, List.all_eq_true, List.mem_range] at h
    rw [h i hi] at h0; cases h0

/-- Each operation from t on waits for all below t. -/
def waits (md : Region.Mode) (ops : Array Oper) (t : Nat) : Bool :=
  (List.range ops.size).all fun j => decide (j < t) || (List.range t).all fun i => ((ops[j]?).map (·.after.any fun e => Region.binds md e && e.on == i)).getD false

theorem waits_full {listed : Array Bool} {j : Nat} (hw : waits md ops t = true) (hl : listed.size = ops.size) (htn : t ≤ ops.size) (hj : j ∈ Region.ready md ops listed) (hjt : t ≤ j) : full t listed = true := by
  obtain ⟨_, oj, hoj, hall⟩ := mem_ready.1 hj
  have hlt : j < ops.size := (Array.getElem?_eq_some_iff.1 hoj).1
  simp only [waits, List.all_eq_true, List.mem_range, Bool.or_eq_true, decide_eq_true_eq] at hw
  have h1 := (hw j hlt).resolve_left (by omega)
  simp only [full, List.all_eq_true, List.mem_range]
  intro i hi
  have h2 := h1 i hi
  simp only [hoj, Option.map_some, Option.getD_some] at h2
  obtain ⟨e, he, hb⟩ := Array.any_eq_true'.1 h2
  simp only [Bool.and_eq_true, beq_iff_eq] at hb
  have h3 := hall e he hb.1
  rw [hb.2] at h3
  have hil : i < listed.size := by omega
  simp only [Array.getD_eq_getD_getElem?, Array.getElem?_eq_getElem hil, Option.getD_some] at h3 ⊢
  exact h3

/-- Whatever order is picked from here on; behind each operation below t S holds. -/
def wpAnyT (P : Program) (md : Region.Mode) (ops : Array Oper) (Q : Exit → Act → World → Prop) (t : Nat) (S : World → Prop) : Nat → Array Bool → Act → World → Prop
  | 0, listed, a, w => Region.ready md ops listed = [] ∧ Q .normal a w
  | fuel + 1, listed, a, w =>
    (Region.ready md ops listed = [] → Q .normal a w) ∧
    ∀ i ∈ Region.ready md ops listed, wpOp P ops Q i (fun a' w' => (i < t → S w') ∧ wpAnyT P md ops Q t S fuel (listed.setIfInBounds i true) a' w') a w

theorem wpAny_of_T : ∀ (fuel : Nat) (listed : Array Bool) (a : Act) (w : World), wpAnyT P md ops Q t S fuel listed a w → wpAny P md ops Q fuel listed a w
  | 0, _, _, _, h => h
  | fuel + 1, _, _, _, h => ⟨h.1, fun i hi => wpOp_mono (fun a' w' h' => wpAny_of_T fuel _ a' w' h'.2) (h.2 i hi)⟩

theorem wpAnyT_first {i : Nat} {oi : Oper} {v : Value} (hi : ops[i]? = some oi) (hsel : ∀ (j : Nat) (o : Oper) cs b, ops[j]? = some o → o.op ≠ .select cs b)
    (hQ : ∀ c a w, Q (.panic c) (a.put oi.dst v) w → Q (.panic c) a w) (hwt : waits md ops t = true) (htn : t ≤ ops.size) :
    ∀ (fuel : Nat) (listed : Array Bool) (a : Act) (w : World), listed.size = ops.size →
      (∀ j oj, ops[j]? = some oj → j ≠ i → listed.getD j true = false → (∀ e ∈ oj.after, Region.binds md e = true → e.on ≠ i) → oi.apart ops oj = true) →
      i ∈ Region.ready md ops listed → YieldsIf P ops (fun w => i < t → S w) oi v a → (S w ∨ full t listed = true) →
      wpAnyT P md ops Q t S fuel (listed.setIfInBounds i true) (a.put oi.dst v) w → wpAnyT P md ops Q t S (fuel + 1) listed a w := by
  intro fuel
  induction fuel with
  | zero =>
    intro listed a w _ _ hr hy hS H
    have hun := (mem_ready.1 hr).1
    refine ⟨fun h => (by rw [h] at hr; cases hr), fun j hj => ?_⟩
    by_cases hji : j = i
    · subst hji
      exact hy.wpOp hi (fun hlt => full_not hlt hun hS) ⟨fun hlt => full_not hlt hun hS, H⟩
    · have := ready_mono hj hji
      rw [H.1] at this
      cases this
  | succ fuel ih =>
    intro listed a w hsz hfree hr hy hS H
    have hun := (mem_ready.1 hr).1
    refine ⟨fun h => (by rw [h] at hr; cases hr), fun j hj => ?_⟩
    by_cases hji : j = i
    · subst hji
      exact hy.wpOp hi (fun hlt => full_not hlt hun hS) ⟨fun hlt => full_not hlt hun hS, H⟩
    · have h1 := H.2 j (ready_mono hj hji)
      obtain ⟨hjun, oj, hoj, hall⟩ := mem_ready.1 hj
      have hnot : ∀ e ∈ oj.after, Region.binds md e = true → e.on ≠ i := fun e he hb heq => by
        have h1 := hall e he hb
        have h0 := (mem_ready.1 hr).1
        rw [heq] at h1
        rcases Nat.lt_or_ge i listed.size with h' | h'
        · simp [h'] at h0 h1; rw [h0] at h1; cases h1
        · simp [Array.getElem?_eq_none h'] at h1
      have h2 := wpOp_putIf hoj (hfree j oj hoj hji hjun hnot) (fun cs b => hsel i oi cs b hi) (fun cs b => hsel j oj cs b hoj) hQ hy h1
      have hfree' : ∀ k ok, ops[k]? = some ok → k ≠ i → (listed.setIfInBounds j true).getD k true = false →
          (∀ e ∈ ok.after, Region.binds md e = true → e.on ≠ i) → oi.apart ops ok = true := fun k ok hk hki hun hno => by
        refine hfree k ok hk hki ?_ hno
        by_cases hjk : j = k
        · subst hjk; exact hjun
        · rw [getD_set_ne true hjk] at hun; exact hun
      refine wpOp_mono (fun a' w' h3 => ?_) h2
      have hS' : S w' ∨ full t (listed.setIfInBounds j true) = true := by
        by_cases hjt : j < t
        · exact .inl (h3.2.1 hjt)
        · exact .inr (full_set (waits_full hwt hsz htn hj (by omega)))
      refine ⟨h3.2.1, ih (listed.setIfInBounds j true) a' w' (by simpa using hsz) hfree' (ready_mono hr (Ne.symm hji)) h3.1 hS' ?_⟩
      rw [Array.setIfInBounds_comm _ _ hji]
      exact h3.2.2

/-! ### one order -/

/-- The walk in one order: (i, 0): operation i only reads; (i, _): it is carried out as it is, and below t the condition is shown behind it. -/
def wpOrd (P : Program) (ops : Array Oper) (Q : Exit → Act → World → Prop) (t : Nat) (S : World → Prop) : List (Nat × Nat) → Act → World → Prop
  | [], a, w => Q .normal a w
  | (i, 0) :: rest, a, w => ∃ oi, ops[i]? = some oi ∧ ∃ v, YieldsIf P ops (fun w => i < t → S w) oi v a ∧ wpOrd P ops Q t S rest (a.put oi.dst v) w
  | (i, _ + 1) :: rest, a, w => wpOp P ops Q i (fun a' w' => (i < t → S w') ∧ wpOrd P ops Q t S rest a' w') a w

/-- May it be walked so? -/
def ordOk (md : Region.Mode) (ops : Array Oper) : List (Nat × Nat) → Array Bool → Bool
  | [], listed => (Region.ready md ops listed).isEmpty
  | (i, 0) :: rest, listed => (Region.ready md ops listed).contains i && Region.free md ops listed i && ordOk md ops rest (listed.setIfInBounds i true)
  | (i, _ + 1) :: rest, listed => (Region.ready md ops listed) == [i] && ordOk md ops rest (listed.setIfInBounds i true)

theorem wpOrd_sound (hsel : Region.noSelect ops = true) (hQ : ∀ c a (d : Option Tmp) v w, Q (.panic c) (a.put d v) w → Q (.panic c) a w) (hwt : waits md ops t = true) (htn : t ≤ ops.size) :
    ∀ (ord : List (Nat × Nat)) (listed : Array Bool) (a : Act) (w : World), listed.size = ops.size → ordOk md ops ord listed = true → (S w ∨ full t listed = true) →
      wpOrd P ops Q t S ord a w → wpAnyT P md ops Q t S ord.length listed a w
  | [], listed, a, w, _, hok, _, h => ⟨by simpa [ordOk] using hok, h⟩
  | (i, 0) :: rest, listed, a, w, hsz, hok, hS, h => by
    simp only [ordOk, Bool.and_eq_true] at hok
    obtain ⟨oi, hi, v, hy, hr⟩ := h
    have hrd : i ∈ Region.ready md ops listed := by simpa using hok.1.1
    refine wpAnyT_first hi (Region.noSelect_spec hsel) (fun c a w => hQ c a oi.dst v w) hwt htn rest.length listed a w hsz (Region.free_spec hi hok.1.2) hrd hy hS ?_
    exact wpOrd_sound hsel hQ hwt htn rest _ _ w (by simpa using hsz) hok.2 (hS.imp id full_set) hr
  | (i, k + 1) :: rest, listed, a, w, hsz, hok, hS, h => by
    simp only [ordOk, Bool.and_eq_true, beq_iff_eq] at hok
    refine ⟨fun he => (by rw [hok.1] at he; cases he), fun j hj => ?_⟩
    have hj' := hj
    rw [hok.1] at hj
    simp only [List.mem_singleton] at hj
    subst hj
    refine wpOp_mono (fun a' w' h' => ⟨h'.1, wpOrd_sound hsel hQ hwt htn rest _ _ w' (by simpa using hsz) hok.2 ?_ h'.2⟩) h
    by_cases hjt : j < t
    · exact .inl (h'.1 hjt)
    · exact .inr (full_set (waits_full hwt hsz htn hj' (by omega)))

/-- A region that draws, by its operations in one order. -/
theorem wp_region_ord {id : Nat} {l : List Oper} {a : Act} {w : World} (S : World → Prop) (t : Nat) (ord : List (Nat × Nat)) (hm : P.follows .mixedOrders = true)
    (hok : (Region.noSelect l.toArray && waits .any l.toArray t && decide (t ≤ l.length) && (ord.length == l.length) && ordOk .any l.toArray ord (Array.replicate l.length false)) = true)
    (hQ : ∀ c a (d : Option Tmp) v w, Q (.panic c) (a.put d v) w → Q (.panic c) a w) (hS : S w.drew)
    (h : wpOrd P l.toArray Q t S ord a w.drew) : (Code.region id l.toArray true).wp P Q a w := by
  simp only [Bool.and_eq_true, decide_eq_true_eq, beq_iff_eq] at hok
  obtain ⟨⟨⟨⟨h1, h2⟩, h3⟩, h4⟩, h5⟩ := hok
  refine wp_region_any hm (wpAny_of_T (t := t) (S := S) _ _ _ _ ?_)
  have := wpOrd_sound (P := P) (Q := Q) (S := S) h1 hQ h2 (by simpa using h3) ord _ a w.drew (by simp) h5 (.inl hS) h
  rw [h4] at this
  simpa using this

/-! ### the steps of a walk -/

/-- Number i of a list: it reckons to the very element. -/
def nth {α : Type} : List α → Nat → Option α
  | [], _ => none
  | x :: _, 0 => some x
  | _ :: l, i + 1 => nth l i

theorem nth_eq {α : Type} : ∀ (l : List α) (i : Nat), nth l i = l.toArray[i]?
  | [], i => by simp [nth]
  | x :: l, 0 => by simp [nth]
  | x :: l, i + 1 => by
    have := nth_eq l i
    simpa [nth] using this

variable {l : List Oper}

theorem wpOrd_nil {a : Act} {w : World} (h : Q .normal a w) : wpOrd P ops Q t S [] a w := h

/-- An operation that only reads, and is wanted: it may use the condition. -/
theorem wpOrd_read {i : Nat} {rest : List (Nat × Nat)} {a : Act} {w : World} {oi : Oper} (hi : nth l i = some oi) (hw : Region.wanted oi (yielded l.toArray a.tmps) = true) (hit : i < t)
    (h : ∃ v, (∀ wq, S wq → (execOp a.eval oi).run P wq = .ok (.value v) wq) ∧ wpOrd P l.toArray Q t S rest (a.put oi.dst v) w) : wpOrd P l.toArray Q t S ((i, 0) :: rest) a w :=
  let ⟨v, hy, h⟩ := h
  ⟨oi, by rw [← nth_eq]; exact hi, v, .inl ⟨hw, fun wq hq => hy wq (hq hit)⟩, h⟩

/-- .. without it. -/
theorem wpOrd_pure {i : Nat} {rest : List (Nat × Nat)} {a : Act} {w : World} {oi : Oper} (hi : nth l i = some oi) (hw : Region.wanted oi (yielded l.toArray a.tmps) = true)
    (h : ∃ v, (∀ wq, (execOp a.eval oi).run P wq = .ok (.value v) wq) ∧ wpOrd P l.toArray Q t S rest (a.put oi.dst v) w) : wpOrd P l.toArray Q t S ((i, 0) :: rest) a w :=
  let ⟨v, hy, h⟩ := h
  ⟨oi, by rw [← nth_eq]; exact hi, v, .inl ⟨hw, fun wq _ => hy wq⟩, h⟩

theorem wpOrd_move {i : Nat} {rest : List (Nat × Nat)} {a : Act} {w : World} {oi : Oper} (x : Operand) (hi : nth l i = some oi) (ho : oi.op = .move x ∨ oi.op = .assign x) (hw : Region.wanted oi (yielded l.toArray a.tmps) = true)
    (h : wpOrd P l.toArray Q t S rest (a.put oi.dst (a.eval x)) w) : wpOrd P l.toArray Q t S ((i, 0) :: rest) a w :=
  ⟨oi, by rw [← nth_eq]; exact hi, _, .inl ⟨hw, fun wq _ => by rcases ho with ho | ho <;> (unfold execOp; rw [ho]; rfl)⟩, h⟩

theorem wpOrd_skip {i : Nat} {rest : List (Nat × Nat)} {a : Act} {w : World} {oi : Oper} (hi : nth l i = some oi) (hw : Region.wanted oi (yielded l.toArray a.tmps) = false)
    (h : wpOrd P l.toArray Q t S rest (a.put oi.dst undef) w) : wpOrd P l.toArray Q t S ((i, 0) :: rest) a w :=
  ⟨oi, by rw [← nth_eq]; exact hi, undef, .inr ⟨hw, rfl⟩, h⟩

theorem wpOp_of_list {i : Nat} {o : Oper} {K : Act → World → Prop} {a : Act} {w : World} (hi : ops[i]? = some o) (h : wpList P ops (Exit.then K Q) [o] a w) : wpOp P ops Q i K a w := by
  unfold wpOp
  simp only [hi]
  unfold wpList at h
  split
  · rename_i hw
    rw [if_pos hw] at h
    rcases h with h | ⟨h1, a0, w0, h2⟩
    · refine .inl ?_
      unfold Oper.wp at *
      generalize (execOp a.eval o).run P w = r at *
      cases r with
      | ok n w' =>
        cases n <;> simp only [Oper.upon] at h ⊢ <;>
          first
            | exact h
            | exact Calls.mono h (fun e w'' he => by cases e <;> first | exact he | (obtain ⟨a1, w1, h1⟩ := he; exact ⟨a1, w1, h1⟩))
            | exact Rows.mono h (fun _ _ he => he)
      | halt x w' => cases x <;> simp only [Oper.upon] at h ⊢ <;> exact h
    · exact .inr ⟨h1, a0, w0, h2⟩
  · rename_i hw
    rw [if_neg hw] at h
    exact h

/-- An operation that is carried out as it is; below t the condition is to be shown behind it. -/
theorem wpOrd_act {i k : Nat} {rest : List (Nat × Nat)} {a : Act} {w : World} {o : Oper} (hi : nth l i = some o) (_hit : i < t)
    (h : ∀ K : Act → World → Prop, (∀ a' w', S w' → (S w' → wpOrd P l.toArray Q t S rest a' w') → K a' w') → wpList P l.toArray (Exit.then K Q) [o] a w) : wpOrd P l.toArray Q t S ((i, k + 1) :: rest) a w :=
  wpOp_of_list (by rw [← nth_eq]; exact hi) (h _ fun _ _ h1 h2 => ⟨fun _ => h1, h2 h1⟩)

/-- .. from t on nothing is. -/
theorem wpOrd_last {i k : Nat} {rest : List (Nat × Nat)} {a : Act} {w : World} {o : Oper} (hi : nth l i = some o) (hit : t ≤ i)
    (h : ∀ K : Act → World → Prop, (∀ a' w', wpOrd P l.toArray Q t S rest a' w' → K a' w') → wpList P l.toArray (Exit.then K Q) [o] a w) : wpOrd P l.toArray Q t S ((i, k + 1) :: rest) a w :=
  wpOp_of_list (by rw [← nth_eq]; exact hi) (h _ fun _ _ h2 => ⟨fun h => absurd h (by omega), h2⟩)
end
end Go.Ease
