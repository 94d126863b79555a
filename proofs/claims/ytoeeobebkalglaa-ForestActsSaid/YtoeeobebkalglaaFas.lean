/- A walk of same: entries are the model's, so it tells true. -/
import Derived.Test.YtoeeobebkalglaaFan
namespace Go.Proofs.Ytoeeobebkalglaa
open Go.RowKit Go.Ease

/-- Handles of one word. -/
def Small (l : List Ent) : Prop := ∀ e ∈ l, (e.h.hi = 0 ∧ 0 ≤ e.h.lo ∧ e.h.lo < 9223372036854775808) ∧ e.par.hi = 0 ∧ 0 ≤ e.par.lo ∧ e.par.lo < 9223372036854775808

theorem MInv.small {k : Nat} {st : FS} (h : MInv k st) : Small st.l := fun e he => by
  have := h.hs e he
  omega
theorem Small.filter {l : List Ent} (h : Small l) (p : Ent → Bool) : Small (l.filter p) := fun e he => h e (List.mem_filter.1 he).1

/-- What same's loop has done. -/
def SameRel (w : World) (n : Nat) (i : Value) (wr : World) : Prop := ∃ k : Nat, k ≤ n ∧ i = .int .i64 k ∧ Below w.heap.size w wr

section
set_option maxHeartbeats 2000000
set_option maxRecDepth 100000 in
theorem same_any {w : World} {ea oa : Option Addr} {ec oc : Nat} (l : List Ent) (hs : Small l) (hl : l.length ≤ 1000000) (he : Rd w 8 (.slice ea l.length ec) l.length (entCells l)) (ho : Rd w 6 (.slice oa l.length oc) l.length (oneCells (ones l))) :
    Calls Try.prog 24 #[.slice ea l.length ec, .slice oa l.length oc] w fun e w' => e = .returned (.bool true) ∧ Below w.heap.size w w' := by
  have HE := Lib.hid he
  have HO := Lib.hid ho
  have HS := Lib.hid hs
  clear he ho hs
  go_enter Try.func24, Try.ntmps24
  go_wp2_with fail
  go_loopw [15] (fun i wr => SameRel w l.length i wr) (fun i _ => l.length - (intOf i).toNat)
  case atStart => exact ⟨0, Nat.zero_le _, rfl, Below.refl _ _⟩
  case round =>
    obtain ⟨k, hk, rfl, hb⟩ := hrel
    by_cases hkl : k < l.length
    · obtain ⟨e, he⟩ : ∃ e, l[k]? = some e := ⟨l[k], List.getElem?_eq_getElem hkl⟩
      have hsm := HS.out e (List.mem_of_getElem? he)
      have ho : (ones l)[k]? = some (One.of e) := by rw [ones_get, he]; rfl
      rcases HE.out.2 with ⟨_, h0⟩ | ⟨g, off, cap', hh, _, hgl, hgc⟩
      · omega
      cases hh
      rcases HO.out.2 with ⟨_, h0⟩ | ⟨g', off', cap', hh, _, hgl', hgc'⟩
      · omega
      cases hh
      obtain ⟨⟨e0, e1⟩, e2, e3, e4, ⟨e5, e6⟩, e7⟩ := e
      have h8 := ent_cells (cap := ec) hgc he
      have h6 := one_cells hgc' ho
      simp only [One.of] at h8 h6 hsm
      obtain ⟨⟨rfl, hs1, hs2⟩, rfl, hs3, hs4⟩ := hsm
      have q8 : ∀ o v, w.cell? ⟨g, o, none⟩ = some v → wr.cell? ⟨g, o, none⟩ = some v := fun o v h => by rw [World.cell?_of_block (w := w) (a := ⟨g, o, none⟩) (hb.block g hgl)]; exact h
      have q6 : ∀ o v, w.cell? ⟨g', o, none⟩ = some v → wr.cell? ⟨g', o, none⟩ = some v := fun o v h => by rw [World.cell?_of_block (w := w) (a := ⟨g', o, none⟩) (hb.block g' hgl')]; exact h
      obtain ⟨a0, a1, a2, a3, a4, a5, a6, a7⟩ := h8
      replace a0 := q8 _ _ a0
      replace a1 := q8 _ _ a1
      replace a2 := q8 _ _ a2
      replace a3 := q8 _ _ a3
      replace a4 := q8 _ _ a4
      replace a5 := q8 _ _ a5
      replace a6 := q8 _ _ a6
      replace a7 := q8 _ _ a7
      obtain ⟨b0, b1, b2, b3, b4, b5⟩ := h6
      replace b0 := q6 _ _ b0
      replace b1 := q6 _ _ b1
      replace b2 := q6 _ _ b2
      replace b3 := q6 _ _ b3
      replace b4 := q6 _ _ b4
      replace b5 := q6 _ _ b5
      have hgw : g < wr.heap.size := Nat.lt_of_lt_of_le hgl hb.size
      have hgw' : g' < wr.heap.size := Nat.lt_of_lt_of_le hgl' hb.size
      have hh1 := handle_any e1 ⟨hs1, hs2⟩
      have hh2 := handle_any e6 ⟨hs3, hs4⟩
      simp only [Hd.v] at hh1 hh2
      have HH1 := Lib.hid hh1
      have HH2 := Lib.hid hh2
      have HB := Lib.hid hb
      have hsz := hb.size
      clear he ho hgc hgc' q8 q6 hh1 hh2 hb
      go_upto_region 7 with (fail)
      have hB1 : ((wr.alloc (.cells #[.int .u64 0, .int .u64 e1, .int .i64 e2, .int .u8 e3, .int .u32 e4, .int .u64 0, .int .u64 e6, .int .i64 e7] 35)).alloc (.cells #[.int .i64 e1, .int .i64 e6, .int .i64 e2, .int .i64 e7, .int .u8 e3, .int .u32 e4] 59)).drew.heap[wr.heap.size]? = some (.cells #[.int .u64 0, .int .u64 e1, .int .i64 e2, .int .u8 e3, .int .u32 e4, .int .u64 0, .int .u64 e6, .int .i64 e7] 35 (0, 0)) := (Below.heap_alloc _ _ _ (by simp)).trans (heap_alloc_new _ _)
      have hB2 : ((wr.alloc (.cells #[.int .u64 0, .int .u64 e1, .int .i64 e2, .int .u8 e3, .int .u32 e4, .int .u64 0, .int .u64 e6, .int .i64 e7] 35)).alloc (.cells #[.int .i64 e1, .int .i64 e6, .int .i64 e2, .int .i64 e7, .int .u8 e3, .int .u32 e4] 59)).drew.heap[wr.heap.size + 1]? = some (.cells #[.int .i64 e1, .int .i64 e6, .int .i64 e2, .int .i64 e7, .int .u8 e3, .int .u32 e4] 59 (0, 0)) := heap_alloc2_new wr _ _
      have hBB : Below w.heap.size w ((wr.alloc (.cells #[.int .u64 0, .int .u64 e1, .int .i64 e2, .int .u8 e3, .int .u32 e4, .int .u64 0, .int .u64 e6, .int .i64 e7] 35)).alloc (.cells #[.int .i64 e1, .int .i64 e6, .int .i64 e2, .int .i64 e7, .int .u8 e3, .int .u32 e4] 59)).drew := ((HB.out.alloc hsz _).alloc (by simp; omega) _).drew
      clear a0 a1 a2 a3 a4 a5 a6 a7 b0 b1 b2 b3 b4 b5
      refine wp_region_ord (fun w' => (w'.cell? ⟨wr.heap.size, 0, none⟩ = some (.int .u64 0) ∧ w'.cell? ⟨wr.heap.size, 1, none⟩ = some (.int .u64 e1) ∧ w'.cell? ⟨wr.heap.size, 2, none⟩ = some (.int .i64 e2) ∧ w'.cell? ⟨wr.heap.size, 3, none⟩ = some (.int .u8 e3) ∧ w'.cell? ⟨wr.heap.size, 4, none⟩ = some (.int .u32 e4) ∧ w'.cell? ⟨wr.heap.size, 5, none⟩ = some (.int .u64 0) ∧ w'.cell? ⟨wr.heap.size, 6, none⟩ = some (.int .u64 e6) ∧ w'.cell? ⟨wr.heap.size, 7, none⟩ = some (.int .i64 e7)) ∧ w'.cell? ⟨wr.heap.size + 1, 0, none⟩ = some (.int .i64 e1) ∧ w'.cell? ⟨wr.heap.size + 1, 1, none⟩ = some (.int .i64 e6) ∧ w'.cell? ⟨wr.heap.size + 1, 2, none⟩ = some (.int .i64 e2) ∧ w'.cell? ⟨wr.heap.size + 1, 3, none⟩ = some (.int .i64 e7) ∧ w'.cell? ⟨wr.heap.size + 1, 4, none⟩ = some (.int .u8 e3) ∧ w'.cell? ⟨wr.heap.size + 1, 5, none⟩ = some (.int .u32 e4)) 42 [(0,0),(1,0),(2,0),(3,0),(4,1),(5,0),(6,0),(7,0),(8,0),(9,0),(10,0),(11,1),(12,0),(13,0),(14,0),(15,0),(16,0),(17,0),(18,0),(19,0),(20,0),(21,0),(22,0),(23,0),(24,0),(25,0),(26,0),(27,0),(28,0),(29,0),(30,0),(31,0),(32,0),(33,0),(34,0),(35,0),(36,0),(37,0),(38,0),(39,0),(40,0),(41,0)] (by kernel_rfl) (by kernel_rfl) (fun c a d v w h => by cases d <;> exact h) ⟨eight_cells hB1, six_cells hB2⟩ ?_
      have hzz : ((wr.alloc (.cells #[.int .u64 0, .int .u64 e1, .int .i64 e2, .int .u8 e3, .int .u32 e4, .int .u64 0, .int .u64 e6, .int .i64 e7] 35)).alloc (.cells #[.int .i64 e1, .int .i64 e6, .int .i64 e2, .int .i64 e7, .int .u8 e3, .int .u32 e4] 59)).drew.heap.size = wr.heap.size + 2 := by simp
      generalize ((wr.alloc (.cells #[.int .u64 0, .int .u64 e1, .int .i64 e2, .int .u8 e3, .int .u32 e4, .int .u64 0, .int .u64 e6, .int .i64 e7] 35)).alloc (.cells #[.int .i64 e1, .int .i64 e6, .int .i64 e2, .int .i64 e7, .int .u8 e3, .int .u32 e4] 59)).drew = W3 at *
      have HW := Lib.hid (And.intro hB1 (And.intro hB2 (And.intro hBB hzz)))
      clear hB1 hB2 hBB hzz
      repeat (first | (refine wpOrd_skip rfl rfl ?_; simp only [Act.put, List.setIfInBounds_toArray, List.set_cons_succ, List.set_cons_zero]) | (refine wpOrd_pure rfl rfl ?_; apply Exists.intro; refine ⟨fun wq => ?_, ?_⟩; (go_simp <;> rfl); simp only [Act.put, List.setIfInBounds_toArray, List.set_cons_succ, List.set_cons_zero]) | (refine wpOrd_read rfl rfl (by decide) ?_; apply Exists.intro; refine ⟨fun wq hq => ?_, ?_⟩; (go_simp <;> rfl); simp only [Act.put, List.setIfInBounds_toArray, List.set_cons_succ, List.set_cons_zero]))
      refine wpOrd_act rfl (by decide) (fun K hK => ?_)
      go_wp2_with (go_at_call 9; go_must (refine (HH1.out _).mono ?_); rintro ex w7 ⟨rfl, hb7⟩; have H7 := Lib.hid hb7; clear hb7)
      refine hK _ _ ?_ (fun hS => ?_)
      all_goals (clear hK K)
      · exact ⟨eight_cells ((H7.out.block _ (by have := HW.out.2.2.2; omega)).trans HW.out.1), six_cells ((H7.out.block _ (by have := HW.out.2.2.2; omega)).trans HW.out.2.1)⟩
      repeat (first | (refine wpOrd_skip rfl rfl ?_; simp only [Act.put, List.setIfInBounds_toArray, List.set_cons_succ, List.set_cons_zero]) | (refine wpOrd_pure rfl rfl ?_; apply Exists.intro; refine ⟨fun wq => ?_, ?_⟩; (go_simp <;> rfl); simp only [Act.put, List.setIfInBounds_toArray, List.set_cons_succ, List.set_cons_zero]) | (refine wpOrd_read rfl rfl (by decide) ?_; apply Exists.intro; refine ⟨fun wq hq => ?_, ?_⟩; (go_simp <;> rfl); simp only [Act.put, List.setIfInBounds_toArray, List.set_cons_succ, List.set_cons_zero]))
      refine wpOrd_act rfl (by decide) (fun K hK => ?_)
      go_wp2_with (go_at_call 9; go_must (refine (HH2.out _).mono ?_); rintro ex w8 ⟨rfl, hb8⟩; have H8 := Lib.hid (H7.out.trans (hb8.mono H7.out.size)); clear hb8)
      refine hK _ _ ?_ (fun hS => ?_)
      all_goals (clear hK K)
      · exact ⟨eight_cells ((H8.out.block _ (by have := HW.out.2.2.2; omega)).trans HW.out.1), six_cells ((H8.out.block _ (by have := HW.out.2.2.2; omega)).trans HW.out.2.1)⟩
      repeat (first | (refine wpOrd_skip rfl rfl ?_; simp only [Act.put, List.setIfInBounds_toArray, List.set_cons_succ, List.set_cons_zero]) | (refine wpOrd_pure rfl rfl ?_; apply Exists.intro; refine ⟨fun wq => ?_, ?_⟩; (go_simp <;> rfl); simp only [Act.put, List.setIfInBounds_toArray, List.set_cons_succ, List.set_cons_zero]) | (refine wpOrd_read rfl rfl (by decide) ?_; apply Exists.intro; refine ⟨fun wq hq => ?_, ?_⟩; (go_simp <;> rfl); simp only [Act.put, List.setIfInBounds_toArray, List.set_cons_succ, List.set_cons_zero]))
      refine wpOrd_nil ?_
      go_wp2
      go_roundw
      case measure => simp [intOf]; omega
      case rel => exact ⟨k + 1, by omega, by go_num, HW.out.2.2.1.trans (H8.out.mono HW.out.2.2.1.size)⟩
    · have HB := Lib.hid hb
      clear hb
      go_wp2_with fail
      go_ret
      exact ⟨rfl, HB.out⟩
end
end Go.Proofs.Ytoeeobebkalglaa
