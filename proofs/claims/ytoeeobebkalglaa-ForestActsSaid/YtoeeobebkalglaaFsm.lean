/- Walks of the small functions: rights, handles, and what each closure tells. -/
import Derived.Test.YtoeeobebkalglaaFls
namespace Go.Ease
/-- Has. -/
def hasB (s t : Int) : Bool := bits .and .u8 s t == t
def attQ (r1 r2 q1 q2 : Bool) (t : Int) : Int × Int := if (!r1 || !r2) = true then (0, 1) else if (!q1 || !q2) = true then (0, 6) else (t, 0)
/-- Attenuate: the rights, and the error's number. -/
def attB (s t : Int) : Int × Int := attQ (decide (s ≤ 31)) (decide (t ≤ 31)) (hasB s 8) (hasB s t) t
theorem rightB (s : Int) (hs : 0 ≤ s ∧ s < 256) : (bits .andNot .u8 s 31 == 0) = decide (s ≤ 31) := by
  have h : ∀ s : Fin 256, (bits .andNot .u8 (s.val : Int) 31 == 0) = decide ((s.val : Int) ≤ 31) := by decide +kernel
  obtain ⟨n, rfl⟩ : ∃ n : Nat, s = n := ⟨s.toNat, by omega⟩
  exact h ⟨n, by omega⟩
end Go.Ease
namespace Go.Proofs.Ytoeeobebkalglaa
open Go.RowKit Go.Ease

section
set_option maxHeartbeats 400000
theorem right_any (s : Int) (hs : 0 ≤ s ∧ s < 256) (w : World) :
    Calls Try.prog 26 #[.int .u8 s] w fun e w' => e = .returned (.bool (decide (s ≤ 31))) ∧ w = w' := by
  go_enter Try.func26, Try.ntmps26
  go_wp2
  go_ret
  rw [← rightB s hs]
  exact ⟨rfl, rfl⟩

theorem has_any (s t : Int) (w : World) :
    Calls Try.prog 14 #[.int .u8 s, .int .u8 t] w fun e w' => e = .returned (.bool (hasB s t)) ∧ w = w' := by
  go_enter Try.func14, Try.ntmps14
  go_wp2
  go_ret
  exact ⟨rfl, rfl⟩

set_option maxHeartbeats 4000000 in
theorem attenuate_any (s t : Int) (hs : 0 ≤ s ∧ s < 256) (ht : 0 ≤ t ∧ t < 256) (w : World) :
    Calls Try.prog 29 #[.int .u8 s, .int .u8 t] w fun e w' => e = .returned (.tuple #[.int .u8 (attB s t).1, .int .i64 (attB s t).2]) ∧ w = w' := by
  unfold attB
  have e1 := right_any s hs
  have e2 := right_any t ht
  have e3 := has_any s 8
  have e4 := has_any s t
  generalize decide (s ≤ 31) = r1 at e1 ⊢
  generalize decide (t ≤ 31) = r2 at e2 ⊢
  generalize hasB s 8 = q1 at e3 ⊢
  generalize hasB s t = q2 at e4 ⊢
  have E1 := Lib.hid e1
  have E2 := Lib.hid e2
  have E3 := Lib.hid e3
  have E4 := Lib.hid e4
  clear e1 e2 e3 e4
  cases r1 <;> cases r2 <;> cases q1 <;> cases q2
  all_goals
    go_enter Try.func29, Try.ntmps29
    go_wp2_with (first | (go_at_call 26; go_must (first | refine (E1.out _).mono ?_ | refine (E2.out _).mono ?_); rintro e w' ⟨rfl, rfl⟩) | (go_at_call 14; go_must (first | refine (E3.out _).mono ?_ | refine (E4.out _).mono ?_); rintro e w' ⟨rfl, rfl⟩))
    go_ret2
    exact ⟨rfl, rfl⟩

theorem handle_any (n : Int) (hn : 0 ≤ n ∧ n < 9223372036854775808) (w : World) :
    Calls Try.prog 9 #[.int .i64 n] w fun e w' => e = .returned (⟨0, n⟩ : Hd).v ∧ Below w.heap.size w w' := by
  go_enter Try.func9, Try.ntmps9
  go_wp2
  (try simp only [Exit.inBlock, Exit.then])
  refine bodyPost_ret (v := (⟨0, n⟩ : Hd).v) ?_ rfl ⟨rfl, ?_⟩
  · exact results_cell_row rfl _ _ w.heap.size 30 _ (0, 0) _ rfl (heap_alloc_new w _) Try.underlying30 rfl (by kernel_rfl)
  · (repeat' (first | exact Below.refl _ _ | refine Below.setCell ?_ (by simp) _ | refine Below.alloc ?_ (by simp <;> omega) _))

theorem new_any (w : World) :
    Calls Try.prog 7 #[] w fun e w' => e = .returned (.pointer (some ⟨w.heap.size + 1, 0, none⟩)) ∧ Below w.heap.size w w' ∧ Fo w' (w.heap.size + 1) w.heap.size ⟨[], 0⟩ := by
  have hmm := @run_makeMap Try.prog
  go_enter Try.func7, Try.ntmps7
  go_wp2
  go_ret
  refine ⟨rfl, ((Below.refl _ _).alloc (Nat.le_refl _) _).alloc (by simp) _, ?_, Mp.new _ _ ?_⟩
  · exact heap_alloc2_new _ _ _
  · rw [Below.heap_alloc _ _ _ (by simp), heap_alloc_new]
end
end Go.Proofs.Ytoeeobebkalglaa
