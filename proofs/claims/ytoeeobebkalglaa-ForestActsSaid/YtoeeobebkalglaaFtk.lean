/- Walks of Taken and Find: whether a handle is there, and whose it is. -/
import Derived.Test.YtoeeobebkalglaaFsm
namespace Go.Ease
def Ent.zero : Ent := ⟨⟨0, 0⟩, 0, 0, 0, ⟨0, 0⟩, 0⟩
/-- The entry of a handle. -/
def FS.find (st : FS) (h : Hd) : Option Ent := st.l.find? (fun e => decide (e.h = h))
theorem FS.find_some {st : FS} {h : Hd} {e : Ent} (hf : st.find h = some e) : e ∈ st.l ∧ e.h = h := by
  have h1 := List.mem_of_find?_eq_some hf
  have h2 := List.find?_some hf
  exact ⟨h1, by simpa using h2⟩
theorem FS.find_none {st : FS} {h : Hd} (hf : st.find h = none) : ∀ e ∈ st.l, e.h ≠ h := by
  intro e he hh
  have := List.find?_eq_none.1 hf e he
  simp [hh] at this
end Go.Ease
namespace Go.Proofs.Ytoeeobebkalglaa
open Go.RowKit Go.Ease

theorem zeroEnt (w : World) : (zeroValue 35).run Try.prog w = .ok Ent.zero.v w := by kernel_rfl

/-- What a look into the forest's map tells. -/
theorem look_any {wq : World} {mb : Nat} {st : FS} (h : Mp Try.prog 30 wq mb (pairs st.l)) (c : Bool) {hd : Hd} (hk : hd.ok) :
    (Instr.lookup 62 (.map (some mb)) hd.v c).run Try.prog wq = .ok (if c then .tuple #[((st.find hd).getD Ent.zero).v, .bool (st.find hd).isSome] else ((st.find hd).getD Ent.zero).v) wq := by
  obtain ⟨l, hl⟩ := hdKey hk
  cases hf : st.find hd with
  | none =>
    have := h.miss hdKeyed Try.underlying62 (zeroEnt wq) c hl (fun v hv => by
      obtain ⟨e, he, hev⟩ := List.mem_map.1 hv
      simp only [Prod.mk.injEq] at hev
      exact FS.find_none hf e he (Hd.v_inj hev.1))
    simpa using this
  | some e =>
    obtain ⟨he, hh⟩ := FS.find_some hf
    have := h.look hdKeyed Try.underlying62 (zeroEnt wq) c hl (v := e.v) (by rw [← hh]; exact List.mem_map.2 ⟨e, he, rfl⟩)
    simpa using this

theorem look2 {wq : World} {mb : Nat} {st : FS} (h : Mp Try.prog 30 wq mb (pairs st.l)) {hd : Hd} (hk : hd.ok) :
    (Instr.lookup 62 (.map (some mb)) hd.v true).run Try.prog wq = .ok (.tuple #[((st.find hd).getD Ent.zero).v, .bool (st.find hd).isSome]) wq := by
  simpa using look_any h true hk
theorem look1 {wq : World} {mb : Nat} {st : FS} (h : Mp Try.prog 30 wq mb (pairs st.l)) {hd : Hd} (hk : hd.ok) :
    (Instr.lookup 62 (.map (some mb)) hd.v false).run Try.prog wq = .ok ((st.find hd).getD Ent.zero).v wq := by
  simpa using look_any h false hk

theorem run_lookup_op {wq : World} {ev : Operand → Value} {oi : Oper} {t : TypeId} {m x : Operand} {c : Bool} (hop : oi.op = Op.lookup t m x c) {mv key v : Value} (hm : ev m = mv) (hx : ev x = key)
    (h : (Instr.lookup t mv key c).run Try.prog wq = .ok v wq) : (execOp ev oi).run Try.prog wq = .ok (.value v) wq := by
  simp [execOp, hop, hm, hx, h, Result.andThen]

section
set_option maxHeartbeats 400000
theorem taken_nil (h : Hd) (w : World) :
    Calls Try.prog 19 #[.pointer none, h.v] w fun e w' => e = .returned (.bool false) ∧ Below w.heap.size w w' := by
  obtain ⟨hi, lo⟩ := h
  show Calls Try.prog 19 #[.pointer none, .agg #[.int .u64 hi, .int .u64 lo]] w _
  go_enter Try.func19, Try.ntmps19
  go_wp2
  go_ret
  exact ⟨rfl, (Below.refl _ _).alloc (Nat.le_refl _) _⟩

theorem taken_any {w : World} {p mb : Nat} {st : FS} (h : Fo w p mb st) (hd : Hd) (hk : hd.ok) :
    Calls Try.prog 19 #[.pointer (some ⟨p, 0, none⟩), hd.v] w fun e w' => e = .returned (.bool (st.find hd).isSome) ∧ Below w.heap.size w w' := by
  have hlook := fun (wq : World) (hq : Mp Try.prog 30 wq mb (pairs st.l)) => look2 (st := st) hq hk
  obtain ⟨hi, lo⟩ := hd
  generalize (st.find ⟨hi, lo⟩).isSome = q at hlook ⊢
  generalize (st.find ⟨hi, lo⟩).getD Ent.zero = e at hlook ⊢
  obtain ⟨⟨e0, e1⟩, e2, e3, e4, ⟨e5, e6⟩, e7⟩ := e
  have HL := Lib.hid hlook
  have HF := Lib.hid h
  obtain ⟨p0, p1, pf⟩ := h.cellp
  have hpl := h.lt
  have hml := h.mp.lt
  clear hlook h
  show Calls Try.prog 19 #[.pointer (some ⟨p, 0, none⟩), .agg #[.int .u64 hi, .int .u64 lo]] w _
  go_enter Try.func19, Try.ntmps19
  go_upto_region 3 with (fail)
  refine wp_region_ord (fun w' => w'.cell? ⟨p, 0, none⟩ = some (.map (some mb)) ∧ w'.cell? ⟨w.heap.size, 0, none⟩ = some (.int .u64 hi) ∧ w'.cell? ⟨w.heap.size, 1, none⟩ = some (.int .u64 lo) ∧ Mp Try.prog 30 w' mb (pairs st.l)) 11
    [(0,0),(1,0),(2,0),(3,0),(4,0),(5,0),(6,0),(7,0),(8,0),(9,1),(10,1),(11,0)] (by kernel_rfl) (by kernel_rfl) (fun c a d v w h => by cases d <;> exact h) ?_ ?_
  · exact ⟨by rw [World.cell?_drew, World.cell?_alloc_lt (a := ⟨p, 0, none⟩) _ _ hpl]; exact p0, by go_simp, by go_simp, HF.out.mp.same (Below.heap_alloc _ _ _ hml)⟩
  iterate 5 (first | (refine wpOrd_skip rfl rfl ?_; simp only [Act.put, List.setIfInBounds_toArray, List.set_cons_succ, List.set_cons_zero]) | (refine wpOrd_pure rfl rfl ?_; apply Exists.intro; refine ⟨fun wq => ?_, ?_⟩; (go_simp <;> rfl); simp only [Act.put, List.setIfInBounds_toArray, List.set_cons_succ, List.set_cons_zero]) | (refine wpOrd_read rfl rfl (by decide) ?_; apply Exists.intro; refine ⟨fun wq hq => ?_, ?_⟩; (go_simp <;> rfl); simp only [Act.put, List.setIfInBounds_toArray, List.set_cons_succ, List.set_cons_zero]))
  refine wpOrd_read rfl rfl (by decide) ?_
  refine ⟨_, fun wq hq => run_lookup_op rfl rfl rfl (HL.out wq hq.2.2.2), ?_⟩
  simp only [Act.put, List.setIfInBounds_toArray, List.set_cons_succ, List.set_cons_zero, Ent.v, Ent.cells]
  repeat (first | (refine wpOrd_skip rfl rfl ?_; simp only [Act.put, List.setIfInBounds_toArray, List.set_cons_succ, List.set_cons_zero]) | (refine wpOrd_pure rfl rfl ?_; apply Exists.intro; refine ⟨fun wq => ?_, ?_⟩; (go_simp <;> rfl); simp only [Act.put, List.setIfInBounds_toArray, List.set_cons_succ, List.set_cons_zero]) | (refine wpOrd_read rfl rfl (by decide) ?_; apply Exists.intro; refine ⟨fun wq hq => ?_, ?_⟩; (go_simp <;> rfl); simp only [Act.put, List.setIfInBounds_toArray, List.set_cons_succ, List.set_cons_zero]))
  refine wpOrd_act rfl (by decide) (fun K hK => ?_)
  go_wp2_with fail
  refine hK _ _ ?_ (fun hS => ?_)
  all_goals (clear hK K)
  · refine ⟨?_, by go_simp, by go_simp, HF.out.mp.same ?_⟩
    · rw [World.cell?_drew, World.cell?_alloc_lt (a := ⟨p, 0, none⟩) _ _ (by simp; omega), World.cell?_alloc_lt (a := ⟨p, 0, none⟩) _ _ hpl]; exact p0
    · show ((w.alloc _).alloc _).heap[mb]? = _
      rw [Below.heap_alloc _ _ _ (by simp; omega), Below.heap_alloc _ _ _ hml]
  refine wpOrd_act rfl (by decide) (fun K hK => ?_)
  go_wp2_with fail
  refine hK _ _ ?_ (fun hS => ?_)
  all_goals (clear hK K)
  · refine ⟨?_, by go_simp, by go_simp, HF.out.mp.same ?_⟩
    · rw [World.cell?_drew, World.cell?_alloc_lt (a := ⟨p, 0, none⟩) _ _ (by simp; omega), World.cell?_alloc_lt (a := ⟨p, 0, none⟩) _ _ hpl]; exact p0
    · show ((w.alloc _).alloc _).heap[mb]? = _
      rw [Below.heap_alloc _ _ _ (by simp; omega), Below.heap_alloc _ _ _ hml]
  repeat (first | (refine wpOrd_skip rfl rfl ?_; simp only [Act.put, List.setIfInBounds_toArray, List.set_cons_succ, List.set_cons_zero]) | (refine wpOrd_pure rfl rfl ?_; apply Exists.intro; refine ⟨fun wq => ?_, ?_⟩; (go_simp <;> rfl); simp only [Act.put, List.setIfInBounds_toArray, List.set_cons_succ, List.set_cons_zero]) | (refine wpOrd_read rfl rfl (by decide) ?_; apply Exists.intro; refine ⟨fun wq hq => ?_, ?_⟩; (go_simp <;> rfl); simp only [Act.put, List.setIfInBounds_toArray, List.set_cons_succ, List.set_cons_zero]))
  refine wpOrd_nil ?_
  go_wp2
  go_ret
  refine ⟨rfl, ?_⟩
  (repeat' (first | exact Below.refl _ _ | refine Below.drew ?_ | refine Below.setCell ?_ (by simp <;> omega) _ | refine Below.alloc ?_ (by simp <;> omega) _))

theorem find_nil (h : Hd) (u : Int) (w : World) :
    Calls Try.prog 18 #[.pointer none, h.v, .int .u32 u] w fun e w' => e = .returned (.tuple #[Ent.zero.v, .int .i64 7]) ∧ Below w.heap.size w w' := by
  obtain ⟨hi, lo⟩ := h
  show Calls Try.prog 18 #[.pointer none, .agg #[.int .u64 hi, .int .u64 lo], .int .u32 u] w _
  go_enter Try.func18, Try.ntmps18
  go_wp2
  (try simp only [Exit.inBlock, Exit.then])
  refine bodyPost_ret (v := .tuple #[Ent.zero.v, .int .i64 7]) ?_ rfl ⟨rfl, ?_⟩
  · rw [results_cell_tmp rfl]
    go_simp
    rfl
  · skip
    (repeat' (first | exact Below.refl _ _ | refine Below.drew ?_ | refine Below.setCell ?_ (by simp <;> omega) _ | refine Below.alloc ?_ (by simp <;> omega) _))

theorem find_any {w : World} {p mb : Nat} {st : FS} (h : Fo w p mb st) (hd : Hd) (hk : hd.ok) (u : Int) (r : Value) (n : Int)
    (hr : match st.find hd with | some e => if e.own = u then r = e.v ∧ n = 0 else r = Ent.zero.v ∧ n = 7 | none => r = Ent.zero.v ∧ n = 7) :
    Calls Try.prog 18 #[.pointer (some ⟨p, 0, none⟩), hd.v, .int .u32 u] w fun e w' => e = .returned (.tuple #[r, .int .i64 n]) ∧ Below w.heap.size w w' := by
  have hlook := fun (wq : World) (hq : Mp Try.prog 30 wq mb (pairs st.l)) => look2 (st := st) hq hk
  have hr' : (if (st.find hd).isSome = true ∧ ((st.find hd).getD Ent.zero).own = u then r = ((st.find hd).getD Ent.zero).v ∧ n = 0 else r = Ent.zero.v ∧ n = 7) := by
    cases hf : st.find hd with
    | none => rw [hf] at hr; simpa using hr
    | some e =>
      rw [hf] at hr
      by_cases ho : e.own = u
      · simpa [ho] using hr
      · simpa [ho] using hr
  clear hr
  obtain ⟨hi, lo⟩ := hd
  generalize (st.find ⟨hi, lo⟩).isSome = q at hlook hr'
  generalize (st.find ⟨hi, lo⟩).getD Ent.zero = e at hlook hr'
  obtain ⟨⟨e0, e1⟩, e2, e3, e4, ⟨e5, e6⟩, e7⟩ := e
  have HL := Lib.hid hlook
  have HF := Lib.hid h
  have HR := Lib.hid hr'
  obtain ⟨p0, p1, pf⟩ := h.cellp
  have hpl := h.lt
  have hml := h.mp.lt
  clear hlook h hr'
  show Calls Try.prog 18 #[.pointer (some ⟨p, 0, none⟩), .agg #[.int .u64 hi, .int .u64 lo], .int .u32 u] w _
  go_enter Try.func18, Try.ntmps18
  go_upto_region 3 with (fail)
  refine wp_region_ord (fun w' => w'.cell? ⟨p, 0, none⟩ = some (.map (some mb)) ∧ w'.cell? ⟨w.heap.size, 0, none⟩ = some (.int .u64 hi) ∧ w'.cell? ⟨w.heap.size, 1, none⟩ = some (.int .u64 lo) ∧ Mp Try.prog 30 w' mb (pairs st.l)) 11
    [(0,0),(1,0),(2,0),(3,0),(4,0),(5,0),(6,0),(7,0),(8,0),(9,1),(10,1),(11,0)] (by kernel_rfl) (by kernel_rfl) (fun c a d v w h => by cases d <;> exact h) ?_ ?_
  · refine ⟨?_, by go_simp, by go_simp, HF.out.mp.same ?_⟩
    · rw [World.cell?_drew, World.cell?_alloc_lt (a := ⟨p, 0, none⟩) _ _ (by simp; omega), World.cell?_alloc_lt (a := ⟨p, 0, none⟩) _ _ hpl]; exact p0
    · show ((w.alloc _).alloc _).heap[mb]? = _
      rw [Below.heap_alloc _ _ _ (by simp; omega), Below.heap_alloc _ _ _ hml]
  iterate 5 (first | (refine wpOrd_skip rfl rfl ?_; simp only [Act.put, List.setIfInBounds_toArray, List.set_cons_succ, List.set_cons_zero]) | (refine wpOrd_pure rfl rfl ?_; apply Exists.intro; refine ⟨fun wq => ?_, ?_⟩; (go_simp <;> rfl); simp only [Act.put, List.setIfInBounds_toArray, List.set_cons_succ, List.set_cons_zero]) | (refine wpOrd_read rfl rfl (by decide) ?_; apply Exists.intro; refine ⟨fun wq hq => ?_, ?_⟩; (go_simp <;> rfl); simp only [Act.put, List.setIfInBounds_toArray, List.set_cons_succ, List.set_cons_zero]))
  refine wpOrd_read rfl rfl (by decide) ?_
  refine ⟨_, fun wq hq => run_lookup_op rfl rfl rfl (HL.out wq hq.2.2.2), ?_⟩
  simp only [Act.put, List.setIfInBounds_toArray, List.set_cons_succ, List.set_cons_zero, Ent.v, Ent.cells]
  repeat (first | (refine wpOrd_skip rfl rfl ?_; simp only [Act.put, List.setIfInBounds_toArray, List.set_cons_succ, List.set_cons_zero]) | (refine wpOrd_pure rfl rfl ?_; apply Exists.intro; refine ⟨fun wq => ?_, ?_⟩; (go_simp <;> rfl); simp only [Act.put, List.setIfInBounds_toArray, List.set_cons_succ, List.set_cons_zero]) | (refine wpOrd_read rfl rfl (by decide) ?_; apply Exists.intro; refine ⟨fun wq hq => ?_, ?_⟩; (go_simp <;> rfl); simp only [Act.put, List.setIfInBounds_toArray, List.set_cons_succ, List.set_cons_zero]))
  refine wpOrd_act rfl (by decide) (fun K hK => ?_)
  go_wp2_with fail
  refine hK _ _ ?_ (fun hS => ?_)
  all_goals (clear hK K)
  · refine ⟨?_, by go_simp, by go_simp, HF.out.mp.same ?_⟩
    · rw [World.cell?_drew, World.cell?_alloc_lt (a := ⟨p, 0, none⟩) _ _ (by simp; omega), World.cell?_alloc_lt (a := ⟨p, 0, none⟩) _ _ (by simp; omega), World.cell?_alloc_lt (a := ⟨p, 0, none⟩) _ _ hpl]; exact p0
    · show (((w.alloc _).alloc _).alloc _).heap[mb]? = _
      rw [Below.heap_alloc _ _ _ (by simp; omega), Below.heap_alloc _ _ _ (by simp; omega), Below.heap_alloc _ _ _ hml]
  refine wpOrd_act rfl (by decide) (fun K hK => ?_)
  go_wp2_with fail
  refine hK _ _ ?_ (fun hS => ?_)
  all_goals (clear hK K)
  · refine ⟨?_, by go_simp, by go_simp, HF.out.mp.same ?_⟩
    · rw [World.cell?_drew, World.cell?_alloc_lt (a := ⟨p, 0, none⟩) _ _ (by simp; omega), World.cell?_alloc_lt (a := ⟨p, 0, none⟩) _ _ (by simp; omega), World.cell?_alloc_lt (a := ⟨p, 0, none⟩) _ _ hpl]; exact p0
    · show (((w.alloc _).alloc _).alloc _).heap[mb]? = _
      rw [Below.heap_alloc _ _ _ (by simp; omega), Below.heap_alloc _ _ _ (by simp; omega), Below.heap_alloc _ _ _ hml]
  repeat (first | (refine wpOrd_skip rfl rfl ?_; simp only [Act.put, List.setIfInBounds_toArray, List.set_cons_succ, List.set_cons_zero]) | (refine wpOrd_pure rfl rfl ?_; apply Exists.intro; refine ⟨fun wq => ?_, ?_⟩; (go_simp <;> rfl); simp only [Act.put, List.setIfInBounds_toArray, List.set_cons_succ, List.set_cons_zero]) | (refine wpOrd_read rfl rfl (by decide) ?_; apply Exists.intro; refine ⟨fun wq hq => ?_, ?_⟩; (go_simp <;> rfl); simp only [Act.put, List.setIfInBounds_toArray, List.set_cons_succ, List.set_cons_zero]))
  refine wpOrd_nil ?_
  have hb := HR.out
  clear HR
  cases q with
  | false =>
    rw [if_neg (by simp)] at hb
    obtain ⟨rfl, rfl⟩ := hb
    go_wp2
    (try simp only [Exit.inBlock, Exit.then])
    refine bodyPost_ret (v := .tuple #[Ent.zero.v, .int .i64 7]) ?_ rfl ⟨rfl, ?_⟩
    · rw [results_cell_tmp rfl]
      go_simp
      rfl
    · skip
      (repeat' (first | exact Below.refl _ _ | refine Below.drew ?_ | refine Below.setCell ?_ (by simp <;> omega) _ | refine Below.alloc ?_ (by simp <;> omega) _))
  | true =>
    by_cases ho : e4 = u
    · have ho' : (e4 != u) = false := by simp [ho]
      rw [if_pos (by simp [ho])] at hb
      obtain ⟨rfl, rfl⟩ := hb
      go_wp2
      (try simp only [Exit.inBlock, Exit.then])
      refine bodyPost_ret (v := .tuple #[.agg #[.int .u64 e0, .int .u64 e1, .int .i64 e2, .int .u8 e3, .int .u32 e4, .int .u64 e5, .int .u64 e6, .int .i64 e7], .int .i64 0]) ?_ rfl ⟨rfl, ?_⟩
      · rw [results_cell_tmp rfl]
        go_simp
      · skip
        (repeat' (first | exact Below.refl _ _ | refine Below.drew ?_ | refine Below.setCell ?_ (by simp <;> omega) _ | refine Below.alloc ?_ (by simp <;> omega) _))
    · have ho' : (e4 != u) = true := by simp [ho]
      rw [if_neg (by simp [ho])] at hb
      obtain ⟨rfl, rfl⟩ := hb
      go_wp2
      (try simp only [Exit.inBlock, Exit.then])
      refine bodyPost_ret (v := .tuple #[Ent.zero.v, .int .i64 7]) ?_ rfl ⟨rfl, ?_⟩
      · rw [results_cell_tmp rfl]
        go_simp
        rfl
      · skip
        (repeat' (first | exact Below.refl _ _ | refine Below.drew ?_ | refine Below.setCell ?_ (by simp <;> omega) _ | refine Below.alloc ?_ (by simp <;> omega) _))
end
end Go.Proofs.Ytoeeobebkalglaa
