/- Walks of Root and Delegate: a handle more. -/
import Derived.Test.YtoeeobebkalglaaFtk
namespace Go.Ease
open Go.RowKit
/-- Root's forest. -/
def FS.root (st : FS) (e : Ent) : FS := ⟨st.l ++ [⟨e.h, e.obj, e.rts, e.own, ⟨0, 0⟩, st.next⟩], st.next + 1⟩
def FS.F (p mb : Nat) : Nat → Prop := fun k => k = p ∨ k = mb
end Go.Ease
namespace Go.Proofs.Ytoeeobebkalglaa
open Go.RowKit Go.Ease

section
set_option maxHeartbeats 400000
theorem root_nil (e : Ent) (w : World) :
    Calls Try.prog 8 #[.pointer none, e.v] w fun x w' => x = .returned (.int .i64 1) ∧ Below w.heap.size w w' := by
  obtain ⟨⟨e0, e1⟩, e2, e3, e4, ⟨e5, e6⟩, e7⟩ := e
  show Calls Try.prog 8 #[.pointer none, .agg #[.int .u64 e0, .int .u64 e1, .int .i64 e2, .int .u8 e3, .int .u32 e4, .int .u64 e5, .int .u64 e6, .int .i64 e7]] w _
  go_enter Try.func8, Try.ntmps8
  go_wp2
  go_ret
  refine ⟨rfl, ?_⟩
  (repeat' (first | exact Below.refl _ _ | refine Below.drew ?_ | refine Below.setCell ?_ (by simp <;> omega) _ | refine Below.alloc ?_ (by simp <;> omega) _))

theorem root_bad {w : World} {p mb : Nat} {st : FS} (h : Fo w p mb st) (e : Ent) (hk : e.h.ok) (hs : 0 ≤ e.rts ∧ e.rts < 256) (hbad : e.h = ⟨0, 0⟩ ∨ (st.find e.h).isSome = true ∨ 31 < e.rts) :
    Calls Try.prog 8 #[.pointer (some ⟨p, 0, none⟩), e.v] w fun x w' => x = .returned (.int .i64 1) ∧ Below w.heap.size w w' := by
  have ht := fun (wx : World) (hx : Fo wx p mb st) => taken_any hx e.h hk
  have hrt := right_any e.rts hs
  obtain ⟨⟨e0, e1⟩, e2, e3, e4, ⟨e5, e6⟩, e7⟩ := e
  simp only at hk hs hbad ht hrt
  generalize (st.find ⟨e0, e1⟩).isSome = q at ht hbad
  have HT := Lib.hid ht
  have HF := Lib.hid h
  clear ht h
  have hz : (e0 = 0 ∧ e1 = 0) ∨ (e0 == 0) = false ∨ (e0 = 0 ∧ (e1 == 0) = false) := by
    by_cases a : e0 = 0
    · by_cases b : e1 = 0
      · exact .inl ⟨a, b⟩
      · exact .inr (.inr ⟨a, by simpa using b⟩)
    · exact .inr (.inl (by simpa using a))
  have hn : ¬ (e0 = 0 ∧ e1 = 0) → q = true ∨ (q = false ∧ decide (e3 ≤ 31) = false) := fun hc => by
    rcases hbad with hb | hb | hb
    · simp at hb; exact absurd hb hc
    · exact .inl hb
    · cases q
      · exact .inr ⟨rfl, by simp; omega⟩
      · exact .inl rfl
  generalize decide (e3 ≤ 31) = r at hrt hn
  clear hbad
  have HR := Lib.hid hrt
  clear hrt
  rcases hz with ⟨rfl, rfl⟩ | hz | ⟨rfl, hz⟩
  · clear hn
    show Calls Try.prog 8 #[.pointer (some ⟨p, 0, none⟩), .agg #[.int .u64 0, .int .u64 0, .int .i64 e2, .int .u8 e3, .int .u32 e4, .int .u64 e5, .int .u64 e6, .int .i64 e7]] w _
    go_enter Try.func8, Try.ntmps8
    go_wp2
    go_ret
    refine ⟨rfl, ?_⟩
    (repeat' (first | exact Below.refl _ _ | refine Below.drew ?_ | refine Below.setCell ?_ (by simp <;> omega) _ | refine Below.alloc ?_ (by simp <;> omega) _))
  · rcases hn (by rintro ⟨a, b⟩; simp_all) with rfl | ⟨rfl, rfl⟩
    all_goals
      show Calls Try.prog 8 #[.pointer (some ⟨p, 0, none⟩), .agg #[.int .u64 e0, .int .u64 e1, .int .i64 e2, .int .u8 e3, .int .u32 e4, .int .u64 e5, .int .u64 e6, .int .i64 e7]] w _
      go_enter Try.func8, Try.ntmps8
      go_wp2_with (first | (go_at_call 19; go_must (refine (HT.out _ (by exact HF.out.below ((Below.refl _ _).alloc (Nat.le_refl _) _))).mono ?_); rintro ex w1 ⟨rfl, hb1⟩; have h8 := eight_cells (below_block hb1 (heap_alloc_new w _)); have hz1 : w.heap.size + 1 ≤ w1.heap.size := (by have := hb1.size; simpa using this); have HB1 := Lib.hid hb1; clear hb1; obtain ⟨c0, c1, c2, c3, c4, c5, c6, c7⟩ := h8) | (go_at_call 26; go_must (refine (HR.out _).mono ?_); rintro ex w2 ⟨rfl, rfl⟩))
      go_ret
      refine ⟨rfl, ?_⟩
      exact ((Below.refl _ _).alloc (Nat.le_refl _) _).trans (HB1.out.mono (by simp))
  · rcases hn (by rintro ⟨a, b⟩; simp_all) with rfl | ⟨rfl, rfl⟩
    all_goals
      show Calls Try.prog 8 #[.pointer (some ⟨p, 0, none⟩), .agg #[.int .u64 0, .int .u64 e1, .int .i64 e2, .int .u8 e3, .int .u32 e4, .int .u64 e5, .int .u64 e6, .int .i64 e7]] w _
      go_enter Try.func8, Try.ntmps8
      go_wp2_with (first | (go_at_call 19; go_must (refine (HT.out _ (by exact HF.out.below ((Below.refl _ _).alloc (Nat.le_refl _) _))).mono ?_); rintro ex w1 ⟨rfl, hb1⟩; have h8 := eight_cells (below_block hb1 (heap_alloc_new w _)); have hz1 : w.heap.size + 1 ≤ w1.heap.size := (by have := hb1.size; simpa using this); have HB1 := Lib.hid hb1; clear hb1; obtain ⟨c0, c1, c2, c3, c4, c5, c6, c7⟩ := h8) | (go_at_call 26; go_must (refine (HR.out _).mono ?_); rintro ex w2 ⟨rfl, rfl⟩))
      go_ret
      refine ⟨rfl, ?_⟩
      exact ((Below.refl _ _).alloc (Nat.le_refl _) _).trans (HB1.out.mono (by simp))

set_option maxRecDepth 100000 in
theorem root_ok {w : World} {p mb : Nat} {st : FS} (h : Fo w p mb st) (hO : st.Ok) (e : Ent) (hk : e.h.ok) (hs : 0 ≤ e.rts ∧ e.rts < 256) (h0 : e.h ≠ ⟨0, 0⟩) (h1 : (st.find e.h).isSome = false) (h31 : e.rts ≤ 31) (hroom : st.l.length < 1000000) :
    Calls Try.prog 8 #[.pointer (some ⟨p, 0, none⟩), e.v] w fun x w' => x = .returned (.int .i64 0) ∧ Stp (FS.F p mb) w w' (FS.F p mb) ∧ Fo w' p mb (st.root e) := by
  have ht := fun (wx : World) (hx : Fo wx p mb st) => taken_any hx e.h hk
  have hrt := right_any e.rts hs
  obtain ⟨kl, hkl⟩ := hdKey hk
  have hmiss : ∀ v, (e.h.v, v) ∉ pairs st.l := fun v hv => by
    obtain ⟨x, hx, hxv⟩ := List.mem_map.1 hv
    simp only [Prod.mk.injEq] at hxv
    have := FS.find_none (by simpa using h1) x hx
    exact this (Hd.v_inj hxv.1)
  have HK := Lib.hid (And.intro hkl hmiss)
  obtain ⟨⟨e0, e1⟩, e2, e3, e4, ⟨e5, e6⟩, e7⟩ := e
  simp only at hk hs ht hrt h0 h1 h31
  rw [h1] at ht
  rw [show decide (e3 ≤ 31) = true by simpa using h31] at hrt
  have hz : (e0 == 0) = false ∨ (e0 = 0 ∧ (e1 == 0) = false) := by
    by_cases a : e0 = 0
    · by_cases b : e1 = 0
      · subst a; subst b; exact absurd rfl h0
      · exact .inr ⟨a, by simpa using b⟩
    · exact .inl (by simpa using a)
  have HT := Lib.hid ht
  have HR := Lib.hid hrt
  have HF := Lib.hid h
  have HO := Lib.hid (And.intro hO hroom)
  have hpl := h.lt
  have hml := h.mp.lt
  have hne := h.ne
  clear ht hrt h hO hkl hmiss hroom h0 h1 h31
  -- ROOTBODY
  rcases hz with hz | ⟨rfl, hz⟩
  · show Calls Try.prog 8 #[.pointer (some ⟨p, 0, none⟩), .agg #[.int .u64 e0, .int .u64 e1, .int .i64 e2, .int .u8 e3, .int .u32 e4, .int .u64 e5, .int .u64 e6, .int .i64 e7]] w _
    go_enter Try.func8, Try.ntmps8
    go_upto_region 3 with (first | (go_at_call 19; go_must (refine (HT.out _ (by exact HF.out.below ((Below.refl _ _).alloc (Nat.le_refl _) _))).mono ?_); rintro ex w1 ⟨rfl, hb1⟩; have hbx := below_block hb1 (heap_alloc_new w _); have hbw := ((Below.refl _ _).alloc (Nat.le_refl _) _).trans (hb1.mono (by simp)); have h8 := eight_cells hbx; have hz1 : w.heap.size + 1 ≤ w1.heap.size := (by have := hb1.size; simpa using this); have HB1 := Lib.hid (And.intro hbx hbw); clear hb1 hbx hbw; obtain ⟨c0, c1, c2, c3, c4, c5, c6, c7⟩ := h8) | (go_at_call 26; go_must (refine (HR.out _).mono ?_); rintro ex w2 ⟨rfl, rfl⟩))
    have hF1 := HF.out.below HB1.out.2
    obtain ⟨p0, p1, pf⟩ := hF1.cellp
    have hbf := fun j => frozen_of_row w1 w.heap.size j _ _ HB1.out.1
    have hpB : p ≠ w.heap.size := by omega
    have hmB : mb ≠ w.heap.size := by omega
    have hBp : w.heap.size ≠ p := by omega
    have HF1 := Lib.hid hF1
    clear hF1
    refine wp_region_ord (fun w' => w'.cell? ⟨p, 1, none⟩ = some (.int .i64 st.next)) 7 [(0,0),(1,0),(2,0),(3,0),(4,0),(5,0),(6,1),(7,0),(8,1)] (by kernel_rfl) (by kernel_rfl) (fun c a d v w h => by cases d <;> exact h) p1 ?_
    repeat (first | (refine wpOrd_skip rfl rfl ?_; simp only [Act.put, List.setIfInBounds_toArray, List.set_cons_succ, List.set_cons_zero]) | (refine wpOrd_pure rfl rfl ?_; apply Exists.intro; refine ⟨fun wq => ?_, ?_⟩; (go_simp <;> rfl); simp only [Act.put, List.setIfInBounds_toArray, List.set_cons_succ, List.set_cons_zero]) | (refine wpOrd_read rfl rfl (by decide) ?_; apply Exists.intro; refine ⟨fun wq hq => ?_, ?_⟩; (go_simp <;> rfl); simp only [Act.put, List.setIfInBounds_toArray, List.set_cons_succ, List.set_cons_zero]))
    refine wpOrd_act rfl (by decide) (fun K hK => ?_)
    go_wp2_with fail
    refine hK _ _ ?_ (fun hS => ?_)
    all_goals (clear hK K)
    · simp only [World.cell?_drew]
      rw [World.cell?_setCell_other _ _ _ _ (by simp), World.cell?_setCell_other _ _ _ _ (by simp)]
      exact p1
    repeat (first | (refine wpOrd_skip rfl rfl ?_; simp only [Act.put, List.setIfInBounds_toArray, List.set_cons_succ, List.set_cons_zero]) | (refine wpOrd_pure rfl rfl ?_; apply Exists.intro; refine ⟨fun wq => ?_, ?_⟩; (go_simp <;> rfl); simp only [Act.put, List.setIfInBounds_toArray, List.set_cons_succ, List.set_cons_zero]) | (refine wpOrd_read rfl rfl (by decide) ?_; apply Exists.intro; refine ⟨fun wq hq => ?_, ?_⟩; (go_simp <;> rfl); simp only [Act.put, List.setIfInBounds_toArray, List.set_cons_succ, List.set_cons_zero]))
    refine wpOrd_last rfl (by decide) (fun K hK => ?_)
    go_wp2_with fail
    refine wpOrd_nil ?_
    have hb3 := heap_setCell_same _ w.heap.size 7 _ _ (.int .i64 st.next) (heap_setCell_same _ w.heap.size 6 _ _ (.int .u64 0) (heap_setCell_same w1 w.heap.size 5 _ _ (.int .u64 0) HB1.out.1))
    simp only [List.setIfInBounds_toArray, List.set_cons_succ, List.set_cons_zero] at hb3
    have hF3 : Fo (((w1.setCell ⟨w.heap.size, 5, none⟩ (.int .u64 0)).setCell ⟨w.heap.size, 6, none⟩ (.int .u64 0)).setCell ⟨w.heap.size, 7, none⟩ (.int .i64 st.next)) p mb st :=
      HF1.out.same (by rw [heap_setCell_other _ _ _ _ hpB, heap_setCell_other _ _ _ _ hpB, heap_setCell_other _ _ _ _ hpB]) (by rw [heap_setCell_other _ _ _ _ hmB, heap_setCell_other _ _ _ _ hmB, heap_setCell_other _ _ _ _ hmB])
    have hS3 : Stp (FS.F p mb) w (((w1.setCell ⟨w.heap.size, 5, none⟩ (.int .u64 0)).setCell ⟨w.heap.size, 6, none⟩ (.int .u64 0)).setCell ⟨w.heap.size, 7, none⟩ (.int .i64 st.next)).drew (FS.F p mb) :=
      ((((Stp.of_below HB1.out.2).setCell (fun h => by simp at h) _).setCell (fun h => by simp at h) _).setCell (fun h => by simp at h) _).drew
    have hz3 : w.heap.size + 1 ≤ (((w1.setCell ⟨w.heap.size, 5, none⟩ (.int .u64 0)).setCell ⟨w.heap.size, 6, none⟩ (.int .u64 0)).setCell ⟨w.heap.size, 7, none⟩ (.int .i64 st.next)).drew.heap.size := by simpa using hz1
    have hb3' : (((w1.setCell ⟨w.heap.size, 5, none⟩ (.int .u64 0)).setCell ⟨w.heap.size, 6, none⟩ (.int .u64 0)).setCell ⟨w.heap.size, 7, none⟩ (.int .i64 st.next)).drew.heap[w.heap.size]? = _ := hb3
    have hF3' : Fo (((w1.setCell ⟨w.heap.size, 5, none⟩ (.int .u64 0)).setCell ⟨w.heap.size, 6, none⟩ (.int .u64 0)).setCell ⟨w.heap.size, 7, none⟩ (.int .i64 st.next)).drew p mb st := ⟨hF3.fb, hF3.mp⟩
    clear hb3 hF3 p0 p1 pf hbf c0 c1 c2 c3 c4 c5 c6 c7 hz1 hS
    generalize (((w1.setCell ⟨w.heap.size, 5, none⟩ (.int .u64 0)).setCell ⟨w.heap.size, 6, none⟩ (.int .u64 0)).setCell ⟨w.heap.size, 7, none⟩ (.int .i64 st.next)).drew = W3 at *
    have H3 := Lib.hid (And.intro hb3' (And.intro hF3' hS3))
    obtain ⟨p0, p1, pf⟩ := hF3'.cellp
    obtain ⟨hn0, hnm⟩ := HO.out.1.next
    clear hb3' hF3' hS3
    go_upto_region 5 with (fail)
    have hb4 := (heap_setCell_other W3 ⟨p, 1, none⟩ w.heap.size (.int .i64 (st.next + 1)) hBp).trans H3.out.1
    have hp4 := heap_setCell_same W3 p 1 _ _ (.int .i64 (st.next + 1)) H3.out.2.1.fb
    simp only [List.setIfInBounds_toArray, List.set_cons_succ, List.set_cons_zero] at hp4
    have hm4 := H3.out.2.1.mp.same (heap_setCell_other W3 ⟨p, 1, none⟩ mb (.int .i64 (st.next + 1)) (fun e => hne e.symm))
    have hS4 : Stp (FS.F p mb) w (W3.setCell ⟨p, 1, none⟩ (.int .i64 (st.next + 1))) (FS.F p mb) := H3.out.2.2.setCell (fun _ => .inl rfl) _
    have hz4 : w.heap.size + 1 ≤ (W3.setCell ⟨p, 1, none⟩ (.int .i64 (st.next + 1))).heap.size := by simpa using hz3
    clear p0 p1 pf hz3
    generalize (W3.setCell ⟨p, 1, none⟩ (.int .i64 (st.next + 1))) = W4 at *
    have hq0 : W4.cell? ⟨p, 0, none⟩ = some (.map (some mb)) := by rw [cell_of_row W4 p _ _ _ _ hp4]; rfl
    have h8 := eight_cells hb4
    have H4 := Lib.hid (And.intro hb4 (And.intro hp4 (And.intro hm4 hS4)))
    have hup := fun (wx : World) (hx : Mp Try.prog 30 wx mb (pairs st.l)) => hx.store_new hdKeyed Try.underlying62 (v := (Ent.mk ⟨e0, e1⟩ e2 e3 e4 ⟨0, 0⟩ st.next).v) HK.out.1 (by have := HO.out.2; simp only [pairs, List.length_map]; unfold maxLen; omega) HK.out.2
    have HU := Lib.hid hup
    clear hb4 hp4 hm4 hS4 hup
    refine wp_region_ord (fun w' => w'.cell? ⟨p, 0, none⟩ = some (.map (some mb)) ∧ w'.cell? ⟨w.heap.size, 0, none⟩ = some (.int .u64 e0) ∧ w'.cell? ⟨w.heap.size, 1, none⟩ = some (.int .u64 e1) ∧ w'.cell? ⟨w.heap.size, 2, none⟩ = some (.int .i64 e2) ∧ w'.cell? ⟨w.heap.size, 3, none⟩ = some (.int .u8 e3) ∧ w'.cell? ⟨w.heap.size, 4, none⟩ = some (.int .u32 e4) ∧ w'.cell? ⟨w.heap.size, 5, none⟩ = some (.int .u64 0) ∧ w'.cell? ⟨w.heap.size, 6, none⟩ = some (.int .u64 0) ∧ w'.cell? ⟨w.heap.size, 7, none⟩ = some (.int .i64 st.next)) 7 [(0,0),(1,0),(2,0),(3,0),(4,0),(5,0),(6,0),(7,1)] (by kernel_rfl) (by kernel_rfl) (fun c a d v w h => by cases d <;> exact h) ⟨hq0, h8⟩ ?_
    repeat (first | (refine wpOrd_skip rfl rfl ?_; simp only [Act.put, List.setIfInBounds_toArray, List.set_cons_succ, List.set_cons_zero]) | (refine wpOrd_pure rfl rfl ?_; apply Exists.intro; refine ⟨fun wq => ?_, ?_⟩; (go_simp <;> rfl); simp only [Act.put, List.setIfInBounds_toArray, List.set_cons_succ, List.set_cons_zero]) | (refine wpOrd_read rfl rfl (by decide) ?_; apply Exists.intro; refine ⟨fun wq hq => ?_, ?_⟩; (go_simp <;> rfl); simp only [Act.put, List.setIfInBounds_toArray, List.set_cons_succ, List.set_cons_zero]))
    refine wpOrd_last rfl (by decide) (fun K hK => ?_)
    go_wp2_with (at_mapUpdate; go_must (refine wpList_mapUpdate_mp _ rfl _ _ _ _ rfl mb (((Hd.mk e0 e1).v, (Ent.mk ⟨e0, e1⟩ e2 e3 e4 ⟨0, 0⟩ st.next).v) :: pairs st.l) (Hd.mk e0 e1).v (Ent.mk ⟨e0, e1⟩ e2 e3 e4 ⟨0, 0⟩ st.next).v rfl rfl rfl (HU.out _ (by exact H4.out.2.2.1)) ?_); intro w5 hm5 hg5 hz5; have H5 := Lib.hid (And.intro hm5 (And.intro hg5 hz5)); clear hm5 hg5 hz5)
    refine wpOrd_nil ?_
    go_wp2
    go_ret
    refine ⟨rfl, ?_, ?_, ?_⟩
    · exact H4.out.2.2.2.drew.grown H5.out.2.1 (fun k hk _ => by cases hk; exact .inr rfl)
    · exact (H5.out.2.1.block p (lt_of_block H4.out.2.1) (fun e => hne (by cases e; rfl))).trans H4.out.2.1
    · refine H5.out.1.perm ?_
      simp only [pairs, FS.root, List.map_append, List.map_cons, List.map_nil]
      exact (List.perm_append_singleton _ _).symm
  · show Calls Try.prog 8 #[.pointer (some ⟨p, 0, none⟩), .agg #[.int .u64 0, .int .u64 e1, .int .i64 e2, .int .u8 e3, .int .u32 e4, .int .u64 e5, .int .u64 e6, .int .i64 e7]] w _
    go_enter Try.func8, Try.ntmps8
    go_upto_region 3 with (first | (go_at_call 19; go_must (refine (HT.out _ (by exact HF.out.below ((Below.refl _ _).alloc (Nat.le_refl _) _))).mono ?_); rintro ex w1 ⟨rfl, hb1⟩; have hbx := below_block hb1 (heap_alloc_new w _); have hbw := ((Below.refl _ _).alloc (Nat.le_refl _) _).trans (hb1.mono (by simp)); have h8 := eight_cells hbx; have hz1 : w.heap.size + 1 ≤ w1.heap.size := (by have := hb1.size; simpa using this); have HB1 := Lib.hid (And.intro hbx hbw); clear hb1 hbx hbw; obtain ⟨c0, c1, c2, c3, c4, c5, c6, c7⟩ := h8) | (go_at_call 26; go_must (refine (HR.out _).mono ?_); rintro ex w2 ⟨rfl, rfl⟩))
    have hF1 := HF.out.below HB1.out.2
    obtain ⟨p0, p1, pf⟩ := hF1.cellp
    have hbf := fun j => frozen_of_row w1 w.heap.size j _ _ HB1.out.1
    have hpB : p ≠ w.heap.size := by omega
    have hmB : mb ≠ w.heap.size := by omega
    have hBp : w.heap.size ≠ p := by omega
    have HF1 := Lib.hid hF1
    clear hF1
    refine wp_region_ord (fun w' => w'.cell? ⟨p, 1, none⟩ = some (.int .i64 st.next)) 7 [(0,0),(1,0),(2,0),(3,0),(4,0),(5,0),(6,1),(7,0),(8,1)] (by kernel_rfl) (by kernel_rfl) (fun c a d v w h => by cases d <;> exact h) p1 ?_
    repeat (first | (refine wpOrd_skip rfl rfl ?_; simp only [Act.put, List.setIfInBounds_toArray, List.set_cons_succ, List.set_cons_zero]) | (refine wpOrd_pure rfl rfl ?_; apply Exists.intro; refine ⟨fun wq => ?_, ?_⟩; (go_simp <;> rfl); simp only [Act.put, List.setIfInBounds_toArray, List.set_cons_succ, List.set_cons_zero]) | (refine wpOrd_read rfl rfl (by decide) ?_; apply Exists.intro; refine ⟨fun wq hq => ?_, ?_⟩; (go_simp <;> rfl); simp only [Act.put, List.setIfInBounds_toArray, List.set_cons_succ, List.set_cons_zero]))
    refine wpOrd_act rfl (by decide) (fun K hK => ?_)
    go_wp2_with fail
    refine hK _ _ ?_ (fun hS => ?_)
    all_goals (clear hK K)
    · simp only [World.cell?_drew]
      rw [World.cell?_setCell_other _ _ _ _ (by simp), World.cell?_setCell_other _ _ _ _ (by simp)]
      exact p1
    repeat (first | (refine wpOrd_skip rfl rfl ?_; simp only [Act.put, List.setIfInBounds_toArray, List.set_cons_succ, List.set_cons_zero]) | (refine wpOrd_pure rfl rfl ?_; apply Exists.intro; refine ⟨fun wq => ?_, ?_⟩; (go_simp <;> rfl); simp only [Act.put, List.setIfInBounds_toArray, List.set_cons_succ, List.set_cons_zero]) | (refine wpOrd_read rfl rfl (by decide) ?_; apply Exists.intro; refine ⟨fun wq hq => ?_, ?_⟩; (go_simp <;> rfl); simp only [Act.put, List.setIfInBounds_toArray, List.set_cons_succ, List.set_cons_zero]))
    refine wpOrd_last rfl (by decide) (fun K hK => ?_)
    go_wp2_with fail
    refine wpOrd_nil ?_
    have hb3 := heap_setCell_same _ w.heap.size 7 _ _ (.int .i64 st.next) (heap_setCell_same _ w.heap.size 6 _ _ (.int .u64 0) (heap_setCell_same w1 w.heap.size 5 _ _ (.int .u64 0) HB1.out.1))
    simp only [List.setIfInBounds_toArray, List.set_cons_succ, List.set_cons_zero] at hb3
    have hF3 : Fo (((w1.setCell ⟨w.heap.size, 5, none⟩ (.int .u64 0)).setCell ⟨w.heap.size, 6, none⟩ (.int .u64 0)).setCell ⟨w.heap.size, 7, none⟩ (.int .i64 st.next)) p mb st :=
      HF1.out.same (by rw [heap_setCell_other _ _ _ _ hpB, heap_setCell_other _ _ _ _ hpB, heap_setCell_other _ _ _ _ hpB]) (by rw [heap_setCell_other _ _ _ _ hmB, heap_setCell_other _ _ _ _ hmB, heap_setCell_other _ _ _ _ hmB])
    have hS3 : Stp (FS.F p mb) w (((w1.setCell ⟨w.heap.size, 5, none⟩ (.int .u64 0)).setCell ⟨w.heap.size, 6, none⟩ (.int .u64 0)).setCell ⟨w.heap.size, 7, none⟩ (.int .i64 st.next)).drew (FS.F p mb) :=
      ((((Stp.of_below HB1.out.2).setCell (fun h => by simp at h) _).setCell (fun h => by simp at h) _).setCell (fun h => by simp at h) _).drew
    have hz3 : w.heap.size + 1 ≤ (((w1.setCell ⟨w.heap.size, 5, none⟩ (.int .u64 0)).setCell ⟨w.heap.size, 6, none⟩ (.int .u64 0)).setCell ⟨w.heap.size, 7, none⟩ (.int .i64 st.next)).drew.heap.size := by simpa using hz1
    have hb3' : (((w1.setCell ⟨w.heap.size, 5, none⟩ (.int .u64 0)).setCell ⟨w.heap.size, 6, none⟩ (.int .u64 0)).setCell ⟨w.heap.size, 7, none⟩ (.int .i64 st.next)).drew.heap[w.heap.size]? = _ := hb3
    have hF3' : Fo (((w1.setCell ⟨w.heap.size, 5, none⟩ (.int .u64 0)).setCell ⟨w.heap.size, 6, none⟩ (.int .u64 0)).setCell ⟨w.heap.size, 7, none⟩ (.int .i64 st.next)).drew p mb st := ⟨hF3.fb, hF3.mp⟩
    clear hb3 hF3 p0 p1 pf hbf c0 c1 c2 c3 c4 c5 c6 c7 hz1 hS
    generalize (((w1.setCell ⟨w.heap.size, 5, none⟩ (.int .u64 0)).setCell ⟨w.heap.size, 6, none⟩ (.int .u64 0)).setCell ⟨w.heap.size, 7, none⟩ (.int .i64 st.next)).drew = W3 at *
    have H3 := Lib.hid (And.intro hb3' (And.intro hF3' hS3))
    obtain ⟨p0, p1, pf⟩ := hF3'.cellp
    obtain ⟨hn0, hnm⟩ := HO.out.1.next
    clear hb3' hF3' hS3
    go_upto_region 5 with (fail)
    have hb4 := (heap_setCell_other W3 ⟨p, 1, none⟩ w.heap.size (.int .i64 (st.next + 1)) hBp).trans H3.out.1
    have hp4 := heap_setCell_same W3 p 1 _ _ (.int .i64 (st.next + 1)) H3.out.2.1.fb
    simp only [List.setIfInBounds_toArray, List.set_cons_succ, List.set_cons_zero] at hp4
    have hm4 := H3.out.2.1.mp.same (heap_setCell_other W3 ⟨p, 1, none⟩ mb (.int .i64 (st.next + 1)) (fun e => hne e.symm))
    have hS4 : Stp (FS.F p mb) w (W3.setCell ⟨p, 1, none⟩ (.int .i64 (st.next + 1))) (FS.F p mb) := H3.out.2.2.setCell (fun _ => .inl rfl) _
    have hz4 : w.heap.size + 1 ≤ (W3.setCell ⟨p, 1, none⟩ (.int .i64 (st.next + 1))).heap.size := by simpa using hz3
    clear p0 p1 pf hz3
    generalize (W3.setCell ⟨p, 1, none⟩ (.int .i64 (st.next + 1))) = W4 at *
    have hq0 : W4.cell? ⟨p, 0, none⟩ = some (.map (some mb)) := by rw [cell_of_row W4 p _ _ _ _ hp4]; rfl
    have h8 := eight_cells hb4
    have H4 := Lib.hid (And.intro hb4 (And.intro hp4 (And.intro hm4 hS4)))
    have hup := fun (wx : World) (hx : Mp Try.prog 30 wx mb (pairs st.l)) => hx.store_new hdKeyed Try.underlying62 (v := (Ent.mk ⟨0, e1⟩ e2 e3 e4 ⟨0, 0⟩ st.next).v) HK.out.1 (by have := HO.out.2; simp only [pairs, List.length_map]; unfold maxLen; omega) HK.out.2
    have HU := Lib.hid hup
    clear hb4 hp4 hm4 hS4 hup
    refine wp_region_ord (fun w' => w'.cell? ⟨p, 0, none⟩ = some (.map (some mb)) ∧ w'.cell? ⟨w.heap.size, 0, none⟩ = some (.int .u64 0) ∧ w'.cell? ⟨w.heap.size, 1, none⟩ = some (.int .u64 e1) ∧ w'.cell? ⟨w.heap.size, 2, none⟩ = some (.int .i64 e2) ∧ w'.cell? ⟨w.heap.size, 3, none⟩ = some (.int .u8 e3) ∧ w'.cell? ⟨w.heap.size, 4, none⟩ = some (.int .u32 e4) ∧ w'.cell? ⟨w.heap.size, 5, none⟩ = some (.int .u64 0) ∧ w'.cell? ⟨w.heap.size, 6, none⟩ = some (.int .u64 0) ∧ w'.cell? ⟨w.heap.size, 7, none⟩ = some (.int .i64 st.next)) 7 [(0,0),(1,0),(2,0),(3,0),(4,0),(5,0),(6,0),(7,1)] (by kernel_rfl) (by kernel_rfl) (fun c a d v w h => by cases d <;> exact h) ⟨hq0, h8⟩ ?_
    repeat (first | (refine wpOrd_skip rfl rfl ?_; simp only [Act.put, List.setIfInBounds_toArray, List.set_cons_succ, List.set_cons_zero]) | (refine wpOrd_pure rfl rfl ?_; apply Exists.intro; refine ⟨fun wq => ?_, ?_⟩; (go_simp <;> rfl); simp only [Act.put, List.setIfInBounds_toArray, List.set_cons_succ, List.set_cons_zero]) | (refine wpOrd_read rfl rfl (by decide) ?_; apply Exists.intro; refine ⟨fun wq hq => ?_, ?_⟩; (go_simp <;> rfl); simp only [Act.put, List.setIfInBounds_toArray, List.set_cons_succ, List.set_cons_zero]))
    refine wpOrd_last rfl (by decide) (fun K hK => ?_)
    go_wp2_with (at_mapUpdate; go_must (refine wpList_mapUpdate_mp _ rfl _ _ _ _ rfl mb (((Hd.mk 0 e1).v, (Ent.mk ⟨0, e1⟩ e2 e3 e4 ⟨0, 0⟩ st.next).v) :: pairs st.l) (Hd.mk 0 e1).v (Ent.mk ⟨0, e1⟩ e2 e3 e4 ⟨0, 0⟩ st.next).v rfl rfl rfl (HU.out _ (by exact H4.out.2.2.1)) ?_); intro w5 hm5 hg5 hz5; have H5 := Lib.hid (And.intro hm5 (And.intro hg5 hz5)); clear hm5 hg5 hz5)
    refine wpOrd_nil ?_
    go_wp2
    go_ret
    refine ⟨rfl, ?_, ?_, ?_⟩
    · exact H4.out.2.2.2.drew.grown H5.out.2.1 (fun k hk _ => by cases hk; exact .inr rfl)
    · exact (H5.out.2.1.block p (lt_of_block H4.out.2.1) (fun e => hne (by cases e; rfl))).trans H4.out.2.1
    · refine H5.out.1.perm ?_
      simp only [pairs, FS.root, List.map_append, List.map_cons, List.map_nil]
      exact (List.perm_append_singleton _ _).symm
end
end Go.Proofs.Ytoeeobebkalglaa
