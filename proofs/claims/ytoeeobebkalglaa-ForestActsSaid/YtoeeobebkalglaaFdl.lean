/- Walks of Delegate: a handle more, made of another one. -/
import Derived.Test.YtoeeobebkalglaaFrt
namespace Go.Ease
open Go.RowKit
/-- Delegate's forest. -/
def FS.dele (st : FS) (h n : Hd) (obj rts own : Int) : FS := ⟨st.l ++ [⟨n, obj, rts, own, h, st.next⟩], st.next + 1⟩
theorem two_cells {w : World} {b : Nat} {c0 c1 : Value} {t : TypeId} (h : w.heap[b]? = some (.cells #[c0, c1] t (0, 0))) :
    w.cell? ⟨b, 0, none⟩ = some c0 ∧ w.cell? ⟨b, 1, none⟩ = some c1 := by
  refine ⟨?_, ?_⟩ <;> (rw [cell_of_row w b _ _ _ _ h]; rfl)
end Go.Ease
namespace Go.Proofs.Ytoeeobebkalglaa
open Go.RowKit Go.Ease

section
set_option maxHeartbeats 400000
theorem deleg_nil (h n : Hd) (who to want : Int) (w : World) :
    Calls Try.prog 12 #[.pointer none, h.v, .int .u32 who, n.v, .int .u32 to, .int .u8 want] w fun x w' => x = .returned (.int .i64 7) ∧ Below w.heap.size w w' := by
  have hf := find_nil h who
  have HFN := Lib.hid hf
  clear hf
  obtain ⟨h0, h1⟩ := h
  obtain ⟨n0, n1⟩ := n
  show Calls Try.prog 12 #[.pointer none, .agg #[.int .u64 h0, .int .u64 h1], .int .u32 who, .agg #[.int .u64 n0, .int .u64 n1], .int .u32 to, .int .u8 want] w _
  go_enter Try.func12, Try.ntmps12
  go_wp2_with (go_at_call 18; go_must (refine (HFN.out _).mono ?_); rintro ex w1 ⟨rfl, hb1⟩; have hz1 : w.heap.size + 1 + 1 ≤ w1.heap.size := (by have := hb1.size; simpa using this); have HB1 := Lib.hid (hb1.mono (B' := w.heap.size) (by simp; omega)); clear hb1; simp only [Ent.v, Ent.cells, Ent.zero])
  go_ret
  refine ⟨rfl, ?_⟩
  exact ((((Below.refl _ _).alloc (Nat.le_refl _) _).alloc (by simp) _).trans HB1.out).alloc (by omega) _

theorem deleg_none {w : World} {p mb : Nat} {st : FS} (hF : Fo w p mb st) (h n : Hd) (hk : h.ok) (who to want : Int) (hno : ∀ e, st.find h = some e → e.own ≠ who) :
    Calls Try.prog 12 #[.pointer (some ⟨p, 0, none⟩), h.v, .int .u32 who, n.v, .int .u32 to, .int .u8 want] w fun x w' => x = .returned (.int .i64 7) ∧ Below w.heap.size w w' := by
  have hf := fun (wx : World) (hx : Fo wx p mb st) => find_any hx h hk who Ent.zero.v 7 (by
    cases hq : st.find h with
    | none => exact ⟨rfl, rfl⟩
    | some e => simp [hno e hq])
  have HFN := Lib.hid hf
  have HF := Lib.hid hF
  clear hf hF hno
  obtain ⟨h0, h1⟩ := h
  obtain ⟨n0, n1⟩ := n
  show Calls Try.prog 12 #[.pointer (some ⟨p, 0, none⟩), .agg #[.int .u64 h0, .int .u64 h1], .int .u32 who, .agg #[.int .u64 n0, .int .u64 n1], .int .u32 to, .int .u8 want] w _
  go_enter Try.func12, Try.ntmps12
  go_wp2_with (go_at_call 18; go_must (refine (HFN.out _ (by exact HF.out.below (((Below.refl _ _).alloc (Nat.le_refl _) _).alloc (by simp) _))).mono ?_); rintro ex w1 ⟨rfl, hb1⟩; have hz1 : w.heap.size + 1 + 1 ≤ w1.heap.size := (by have := hb1.size; simpa using this); have HB1 := Lib.hid (hb1.mono (B' := w.heap.size) (by simp; omega)); clear hb1; simp only [Ent.v, Ent.cells, Ent.zero])
  go_ret
  refine ⟨rfl, ?_⟩
  exact ((((Below.refl _ _).alloc (Nat.le_refl _) _).alloc (by simp) _).trans HB1.out).alloc (by omega) _

theorem deleg_att {w : World} {p mb : Nat} {st : FS} (hF : Fo w p mb st) (h n : Hd) (hk : h.ok) (to want : Int) (e : Ent) (he : st.find h = some e) (hr : 0 ≤ e.rts ∧ e.rts < 256) (hw : 0 ≤ want ∧ want < 256) (x : Int) (hx : (attB e.rts want).2 = x) (hx0 : x ≠ 0) :
    Calls Try.prog 12 #[.pointer (some ⟨p, 0, none⟩), h.v, .int .u32 e.own, n.v, .int .u32 to, .int .u8 want] w fun ex w' => ex = .returned (.int .i64 x) ∧ Below w.heap.size w w' := by
  have hf := fun (wx : World) (hx : Fo wx p mb st) => find_any hx h hk e.own e.v 0 (by rw [he]; simp)
  have ha := attenuate_any e.rts want hr hw
  rw [hx] at ha
  have hx1 : (x != 0) = true := by simpa using hx0
  generalize (attB e.rts want).1 = s at ha
  have HFN := Lib.hid hf
  have HA := Lib.hid ha
  have HF := Lib.hid hF
  clear hf hF he ha hx
  obtain ⟨h0, h1⟩ := h
  obtain ⟨n0, n1⟩ := n
  obtain ⟨⟨e0, e1⟩, e2, e3, e4, ⟨e5, e6⟩, e7⟩ := e
  show Calls Try.prog 12 #[.pointer (some ⟨p, 0, none⟩), .agg #[.int .u64 h0, .int .u64 h1], .int .u32 e4, .agg #[.int .u64 n0, .int .u64 n1], .int .u32 to, .int .u8 want] w _
  go_enter Try.func12, Try.ntmps12
  go_wp2_with (first | (go_at_call 18; go_must (refine (HFN.out _ (by exact HF.out.below (((Below.refl _ _).alloc (Nat.le_refl _) _).alloc (by simp) _))).mono ?_); rintro ex w1 ⟨rfl, hb1⟩; have hz1 : w.heap.size + 1 + 1 ≤ w1.heap.size := (by have := hb1.size; simpa using this); have HB1 := Lib.hid (hb1.mono (B' := w.heap.size) (by simp; omega)); clear hb1; simp only [Ent.v, Ent.cells]) | (go_at_call 29; go_must (refine (HA.out _).mono ?_); rintro ex w2 ⟨rfl, rfl⟩))
  go_ret
  refine ⟨rfl, ?_⟩
  exact ((((Below.refl _ _).alloc (Nat.le_refl _) _).alloc (by simp) _).trans HB1.out).alloc (by omega) _
  -- DLBODY
theorem deleg_bad {w : World} {p mb : Nat} {st : FS} (hF : Fo w p mb st) (h n : Hd) (hk : h.ok) (hn : n.ok) (to want : Int) (e : Ent) (he : st.find h = some e) (hr : 0 ≤ e.rts ∧ e.rts < 256) (hw : 0 ≤ want ∧ want < 256) (hx : attB e.rts want = (want, 0))
    (hbad : n = ⟨0, 0⟩ ∨ (st.find n).isSome = true) :
    Calls Try.prog 12 #[.pointer (some ⟨p, 0, none⟩), h.v, .int .u32 e.own, n.v, .int .u32 to, .int .u8 want] w fun ex w' => ex = .returned (.int .i64 1) ∧ Below w.heap.size w w' := by
  have hf := fun (wx : World) (hx : Fo wx p mb st) => find_any hx h hk e.own e.v 0 (by rw [he]; simp)
  have ha := attenuate_any e.rts want hr hw
  rw [hx] at ha
  have hrt := fun (wx : World) (hx : Fo wx p mb st) => root_bad hx ⟨n, e.obj, want, to, ⟨0, 0⟩, 0⟩ hn hw (hbad.elim .inl (fun h => .inr (.inl h)))
  have HFN := Lib.hid hf
  have HA := Lib.hid ha
  have HRT := Lib.hid hrt
  have HF := Lib.hid hF
  clear hf hF he ha hx hrt hbad
  obtain ⟨h0, h1⟩ := h
  obtain ⟨n0, n1⟩ := n
  obtain ⟨⟨e0, e1⟩, e2, e3, e4, ⟨e5, e6⟩, e7⟩ := e
  show Calls Try.prog 12 #[.pointer (some ⟨p, 0, none⟩), .agg #[.int .u64 h0, .int .u64 h1], .int .u32 e4, .agg #[.int .u64 n0, .int .u64 n1], .int .u32 to, .int .u8 want] w _
  go_enter Try.func12, Try.ntmps12
  go_wp2_with (first | (go_at_call 18; go_must (refine (HFN.out _ (by exact HF.out.below (((Below.refl _ _).alloc (Nat.le_refl _) _).alloc (by simp) _))).mono ?_); rintro ex w1 ⟨rfl, hb1⟩; have hz1 : w.heap.size + 1 + 1 ≤ w1.heap.size := (by have := hb1.size; simpa using this); have hbh := (hb1.block w.heap.size (by simp; omega)).trans ((Below.heap_alloc _ _ _ (by simp)).trans (heap_alloc_new w _)); have hbn := (hb1.block (w.heap.size + 1) (by simp)).trans (heap_alloc2_new w _ _); have HB1 := Lib.hid (And.intro (hb1.mono (B' := w.heap.size) (by simp; omega)) (And.intro hbh hbn)); have hz1' : w.heap.size + 1 < w1.heap.size := (by omega); have hz0' : w.heap.size < w1.heap.size := (by omega); obtain ⟨n0c, n1c⟩ := two_cells hbn; obtain ⟨h0c, h1c⟩ := two_cells hbh; clear hb1 hbh hbn; simp only [Ent.v, Ent.cells]) | (go_at_call 29; go_must (refine (HA.out _).mono ?_); rintro ex w2 ⟨rfl, rfl⟩) | (go_at_call 8; go_must (refine (HRT.out _ (by exact HF.out.below (((((Below.refl _ _).alloc (Nat.le_refl _) _).alloc (by simp) _).trans HB1.out.1).alloc (by omega) _))).mono ?_); rintro ex w3 ⟨rfl, hb3⟩; have HB3 := Lib.hid (hb3.mono (B' := w.heap.size) (by simp; omega)); clear hb3))
  go_ret
  refine ⟨rfl, ?_⟩
  exact (((((Below.refl _ _).alloc (Nat.le_refl _) _).alloc (by simp) _).trans HB1.out.1).alloc (by omega) _).trans HB3.out

set_option maxRecDepth 100000 in
theorem deleg_ok {w : World} {p mb : Nat} {st : FS} (hF : Fo w p mb st) (hO : st.Ok) (h n : Hd) (hk : h.ok) (hn : n.ok) (to want : Int) (e : Ent) (he : st.find h = some e) (hr : 0 ≤ e.rts ∧ e.rts < 256) (hw : 0 ≤ want ∧ want ≤ 31) (hx : attB e.rts want = (want, 0))
    (hn0 : n ≠ ⟨0, 0⟩) (hnn : (st.find n).isSome = false) (hroom : st.l.length < 1000000) :
    Calls Try.prog 12 #[.pointer (some ⟨p, 0, none⟩), h.v, .int .u32 e.own, n.v, .int .u32 to, .int .u8 want] w fun ex w' => ex = .returned (.int .i64 0) ∧ Stp (FS.F p mb) w w' (FS.F p mb) ∧ Fo w' p mb (st.dele h n e.obj want to) := by
  have hf := fun (wx : World) (hx : Fo wx p mb st) => find_any hx h hk e.own e.v 0 (by rw [he]; simp)
  have ha := attenuate_any e.rts want hr (by omega)
  rw [hx] at ha
  have hrt := fun (wx : World) (hx : Fo wx p mb st) => root_ok hx hO ⟨n, e.obj, want, to, ⟨0, 0⟩, 0⟩ hn (by simp only; omega) hn0 hnn hw.2 hroom
  obtain ⟨kl, hkl⟩ := hdKey hn
  have hlk : (st.root ⟨n, e.obj, want, to, ⟨0, 0⟩, 0⟩).find n = some ⟨n, e.obj, want, to, ⟨0, 0⟩, st.next⟩ := by
    simp only [FS.find, FS.root, List.find?_append]
    have : st.find n = none := by simpa using hnn
    rw [show st.l.find? (fun e => decide (e.h = n)) = none from this]
    simp
  have hl1 := fun (wx : World) (hx : Mp Try.prog 30 wx mb (pairs (st.root ⟨n, e.obj, want, to, ⟨0, 0⟩, 0⟩).l)) => look1 (st := st.root ⟨n, e.obj, want, to, ⟨0, 0⟩, 0⟩) hx hn
  rw [hlk] at hl1
  have HFN := Lib.hid hf
  have HA := Lib.hid ha
  have HRT := Lib.hid hrt
  have HF := Lib.hid hF
  have HL1 := Lib.hid hl1
  have HK := Lib.hid hkl
  have hpl := hF.lt
  have hml := hF.mp.lt
  have hne := hF.ne
  clear hf hF he ha hx hrt hnn hn0 hl1 hlk hkl
  obtain ⟨h0, h1⟩ := h
  obtain ⟨n0, n1⟩ := n
  obtain ⟨⟨e0, e1⟩, e2, e3, e4, ⟨e5, e6⟩, e7⟩ := e
  show Calls Try.prog 12 #[.pointer (some ⟨p, 0, none⟩), .agg #[.int .u64 h0, .int .u64 h1], .int .u32 e4, .agg #[.int .u64 n0, .int .u64 n1], .int .u32 to, .int .u8 want] w _
  go_enter Try.func12, Try.ntmps12
  go_upto_region 10 with (first | (go_at_call 18; go_must (refine (HFN.out _ (by exact HF.out.below (((Below.refl _ _).alloc (Nat.le_refl _) _).alloc (by simp) _))).mono ?_); rintro ex w1 ⟨rfl, hb1⟩; have hz1 : w.heap.size + 1 + 1 ≤ w1.heap.size := (by have := hb1.size; simpa using this); have hbh := (hb1.block w.heap.size (by simp; omega)).trans ((Below.heap_alloc _ _ _ (by simp)).trans (heap_alloc_new w _)); have hbn := (hb1.block (w.heap.size + 1) (by simp)).trans (heap_alloc2_new w _ _); have HB1 := Lib.hid (And.intro (hb1.mono (B' := w.heap.size) (by simp; omega)) (And.intro hbh hbn)); have hz1' : w.heap.size + 1 < w1.heap.size := (by omega); have hz0' : w.heap.size < w1.heap.size := (by omega); obtain ⟨n0c, n1c⟩ := two_cells hbn; obtain ⟨h0c, h1c⟩ := two_cells hbh; clear hb1 hbh hbn; simp only [Ent.v, Ent.cells]) | (go_at_call 29; go_must (refine (HA.out _).mono ?_); rintro ex w2 ⟨rfl, rfl⟩) | (go_at_call 8; go_must (refine (HRT.out _ (by exact HF.out.below (((((Below.refl _ _).alloc (Nat.le_refl _) _).alloc (by simp) _).trans HB1.out.1).alloc (by omega) _))).mono ?_); rintro ex w3 ⟨rfl, hs3, hf3⟩; have HB3 := Lib.hid (And.intro hs3 hf3); clear hs3 hf3))
  have hS3 := (Stp.of_below (F := FS.F p mb) (((((Below.refl _ _).alloc (Nat.le_refl _) _).alloc (by simp) _).trans HB1.out.1).alloc (by omega) _)).trans HB3.out.1
  have hsz3 := HB3.out.1.size
  simp only [World.size_alloc] at hsz3
  have hh3 : w3.heap[w.heap.size]? = some (.cells #[.int .u64 h0, .int .u64 h1] 30 (0, 0)) := by
    rw [HB3.out.1.block _ (by simp; omega) (fun e => by rcases e with e | e <;> omega), Below.heap_alloc _ _ _ hz0']
    exact HB1.out.2.1
  have hn3 : w3.heap[w.heap.size + 1]? = some (.cells #[.int .u64 n0, .int .u64 n1] 30 (0, 0)) := by
    rw [HB3.out.1.block _ (by simp; omega) (fun e => by rcases e with e | e <;> omega), Below.heap_alloc _ _ _ hz1']
    exact HB1.out.2.2
  have H3 := Lib.hid (And.intro hS3 (And.intro hh3 (And.intro hn3 HB3.out.2)))
  clear n0c n1c h0c h1c hz1 hS3 hh3 hn3 HB3
  have hw1 : w.heap.size + 1 + 1 ≤ w3.heap.size := by omega
  clear hsz3 hz0' hz1' HB1
  obtain ⟨p0, p1, pf⟩ := H3.out.2.2.2.cellp
  obtain ⟨n0c, n1c⟩ := two_cells H3.out.2.2.1
  obtain ⟨h0c, h1c⟩ := two_cells H3.out.2.1
  have hpw : p < w3.heap.size := by omega
  have hmw : mb < w3.heap.size := by omega
  have hnw : w.heap.size + 1 < w3.heap.size := by omega
  have hhw : w.heap.size < w3.heap.size := by omega
  refine wp_region_ord (fun w' => w'.cell? ⟨p, 0, none⟩ = some (.map (some mb)) ∧ w'.cell? ⟨w.heap.size + 1, 0, none⟩ = some (.int .u64 n0) ∧ w'.cell? ⟨w.heap.size + 1, 1, none⟩ = some (.int .u64 n1) ∧ Mp Try.prog 30 w' mb (pairs (st.root ⟨⟨n0, n1⟩, e2, want, to, ⟨0, 0⟩, 0⟩).l)) 7 [(0,0),(1,0),(2,0),(3,0),(4,0),(5,0),(6,1),(7,1)] (by kernel_rfl) (by kernel_rfl) (fun c a d v w h => by cases d <;> exact h) ⟨p0, n0c, n1c, H3.out.2.2.2.mp⟩ ?_
  iterate 5 (first | (refine wpOrd_skip rfl rfl ?_; simp only [Act.put, List.setIfInBounds_toArray, List.set_cons_succ, List.set_cons_zero]) | (refine wpOrd_pure rfl rfl ?_; apply Exists.intro; refine ⟨fun wq => ?_, ?_⟩; (go_simp <;> rfl); simp only [Act.put, List.setIfInBounds_toArray, List.set_cons_succ, List.set_cons_zero]) | (refine wpOrd_read rfl rfl (by decide) ?_; apply Exists.intro; refine ⟨fun wq hq => ?_, ?_⟩; (go_simp <;> rfl); simp only [Act.put, List.setIfInBounds_toArray, List.set_cons_succ, List.set_cons_zero]))
  refine wpOrd_read rfl rfl (by decide) ?_
  refine ⟨_, fun wq hq => run_lookup_op rfl rfl rfl (HL1.out wq hq.2.2.2), ?_⟩
  simp only [Act.put, List.setIfInBounds_toArray, List.set_cons_succ, List.set_cons_zero, Ent.v, Ent.cells, Option.getD_some]
  refine wpOrd_act rfl (by decide) (fun K hK => ?_)
  go_wp2_with fail
  refine hK _ _ ?_ (fun hS => ?_)
  all_goals (clear hK K)
  · refine ⟨?_, by go_simp, by go_simp, H3.out.2.2.2.mp.same ?_⟩
    · rw [World.cell?_drew, World.cell?_alloc_lt (a := ⟨p, 0, none⟩) _ _ hpw]; exact p0
    · show (w3.alloc _).heap[mb]? = _
      rw [Below.heap_alloc _ _ _ hmw]
  refine wpOrd_last rfl (by decide) (fun K hK => ?_)
  go_wp2_with fail
  refine wpOrd_nil ?_
  go_upto_region 12 with (fail)
  have hq0 : (w3.alloc (.cells #[.int .u64 n0, .int .u64 n1, .int .i64 e2, .int .u8 want, .int .u32 to, .int .u64 h0, .int .u64 h1, .int .i64 st.next] 35)).drew.cell? ⟨p, 0, none⟩ = some (.map (some mb)) := by
    rw [World.cell?_drew, World.cell?_alloc_lt (a := ⟨p, 0, none⟩) _ _ hpw]; exact p0
  have hq1 : (w3.alloc (.cells #[.int .u64 n0, .int .u64 n1, .int .i64 e2, .int .u8 want, .int .u32 to, .int .u64 h0, .int .u64 h1, .int .i64 st.next] 35)).drew.cell? ⟨w.heap.size + 1, 0, none⟩ = some (.int .u64 n0) := by
    rw [World.cell?_drew, World.cell?_alloc_lt (a := ⟨w.heap.size + 1, 0, none⟩) _ _ hnw]; exact n0c
  have hq2 : (w3.alloc (.cells #[.int .u64 n0, .int .u64 n1, .int .i64 e2, .int .u8 want, .int .u32 to, .int .u64 h0, .int .u64 h1, .int .i64 st.next] 35)).drew.cell? ⟨w.heap.size + 1, 1, none⟩ = some (.int .u64 n1) := by
    rw [World.cell?_drew, World.cell?_alloc_lt (a := ⟨w.heap.size + 1, 1, none⟩) _ _ hnw]; exact n1c
  have h8 := eight_cells (w := (w3.alloc (.cells #[.int .u64 n0, .int .u64 n1, .int .i64 e2, .int .u8 want, .int .u32 to, .int .u64 h0, .int .u64 h1, .int .i64 st.next] 35)).drew) (heap_alloc_new w3 _)
  have hS5 : Stp (FS.F p mb) w (w3.alloc (.cells #[.int .u64 n0, .int .u64 n1, .int .i64 e2, .int .u8 want, .int .u32 to, .int .u64 h0, .int .u64 h1, .int .i64 st.next] 35)).drew (FS.F p mb) := (H3.out.1.alloc _).drew
  have hp5 : (w3.alloc (.cells #[.int .u64 n0, .int .u64 n1, .int .i64 e2, .int .u8 want, .int .u32 to, .int .u64 h0, .int .u64 h1, .int .i64 st.next] 35)).drew.heap[p]? = some (.cells #[.map (some mb), .int .i64 (st.next + 1)] 64 (0, 0)) := (Below.heap_alloc _ _ _ hpw).trans H3.out.2.2.2.fb
  have hm5 : Mp Try.prog 30 (w3.alloc (.cells #[.int .u64 n0, .int .u64 n1, .int .i64 e2, .int .u8 want, .int .u32 to, .int .u64 h0, .int .u64 h1, .int .i64 st.next] 35)).drew mb (((Hd.mk n0 n1).v, (Ent.mk ⟨n0, n1⟩ e2 want to ⟨0, 0⟩ st.next).v) :: pairs st.l) := (H3.out.2.2.2.mp.same (Below.heap_alloc _ _ _ hmw)).perm (by
    simp only [pairs, FS.root, List.map_append, List.map_cons, List.map_nil]
    exact List.perm_append_singleton _ _)
  clear p0 p1 pf n0c n1c h0c h1c hS
  generalize (w3.alloc (.cells #[.int .u64 n0, .int .u64 n1, .int .i64 e2, .int .u8 want, .int .u32 to, .int .u64 h0, .int .u64 h1, .int .i64 st.next] 35)).drew = W5 at *
  have H5 := Lib.hid (And.intro hS5 (And.intro hp5 hm5))
  have hup := fun (wx : World) (hx : Mp Try.prog 30 wx mb (((Hd.mk n0 n1).v, (Ent.mk ⟨n0, n1⟩ e2 want to ⟨0, 0⟩ st.next).v) :: pairs st.l)) => hx.store_old hdKeyed Try.underlying62 (v := (Ent.mk ⟨n0, n1⟩ e2 want to ⟨h0, h1⟩ st.next).v) HK.out
  have HU := Lib.hid hup
  clear hS5 hp5 hm5 hup
  refine wp_region_ord (fun w' => w'.cell? ⟨p, 0, none⟩ = some (.map (some mb)) ∧ w'.cell? ⟨w.heap.size + 1, 0, none⟩ = some (.int .u64 n0) ∧ w'.cell? ⟨w.heap.size + 1, 1, none⟩ = some (.int .u64 n1) ∧ w'.cell? ⟨w3.heap.size, 0, none⟩ = some (.int .u64 n0) ∧ w'.cell? ⟨w3.heap.size, 1, none⟩ = some (.int .u64 n1) ∧ w'.cell? ⟨w3.heap.size, 2, none⟩ = some (.int .i64 e2) ∧ w'.cell? ⟨w3.heap.size, 3, none⟩ = some (.int .u8 want) ∧ w'.cell? ⟨w3.heap.size, 4, none⟩ = some (.int .u32 to) ∧ w'.cell? ⟨w3.heap.size, 5, none⟩ = some (.int .u64 h0) ∧ w'.cell? ⟨w3.heap.size, 6, none⟩ = some (.int .u64 h1) ∧ w'.cell? ⟨w3.heap.size, 7, none⟩ = some (.int .i64 st.next)) 6 [(0,0),(1,0),(2,0),(3,0),(4,0),(5,0),(6,1)] (by kernel_rfl) (by kernel_rfl) (fun c a d v w h => by cases d <;> exact h) ⟨hq0, hq1, hq2, h8⟩ ?_
  repeat (first | (refine wpOrd_skip rfl rfl ?_; simp only [Act.put, List.setIfInBounds_toArray, List.set_cons_succ, List.set_cons_zero]) | (refine wpOrd_pure rfl rfl ?_; apply Exists.intro; refine ⟨fun wq => ?_, ?_⟩; (go_simp <;> rfl); simp only [Act.put, List.setIfInBounds_toArray, List.set_cons_succ, List.set_cons_zero]) | (refine wpOrd_read rfl rfl (by decide) ?_; apply Exists.intro; refine ⟨fun wq hq => ?_, ?_⟩; (go_simp <;> rfl); simp only [Act.put, List.setIfInBounds_toArray, List.set_cons_succ, List.set_cons_zero]))
  refine wpOrd_last rfl (by decide) (fun K hK => ?_)
  go_wp2_with (at_mapUpdate; go_must (refine wpList_mapUpdate_mp _ rfl _ _ _ _ rfl mb (((Hd.mk n0 n1).v, (Ent.mk ⟨n0, n1⟩ e2 want to ⟨h0, h1⟩ st.next).v) :: pairs st.l) (Hd.mk n0 n1).v (Ent.mk ⟨n0, n1⟩ e2 want to ⟨h0, h1⟩ st.next).v rfl rfl rfl (HU.out _ (by exact H5.out.2.2)) ?_); intro w5 hm5 hg5 hz5; have H6 := Lib.hid (And.intro hm5 (And.intro hg5 hz5)); clear hm5 hg5 hz5)
  refine wpOrd_nil ?_
  go_wp2
  go_ret
  refine ⟨rfl, ?_, ?_, ?_⟩
  · exact H5.out.1.drew.grown H6.out.2.1 (fun k hk _ => by cases hk; exact .inr rfl)
  · exact (H6.out.2.1.block p (lt_of_block H5.out.2.1) (fun e => hne (by cases e; rfl))).trans H5.out.2.1
  · refine H6.out.1.perm ?_
    simp only [pairs, FS.dele, List.map_append, List.map_cons, List.map_nil]
    exact (List.perm_append_singleton _ _).symm
end
end Go.Proofs.Ytoeeobebkalglaa
