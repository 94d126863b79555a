/- A walk of the law's step, a call of kind 0. -/
import Derived.Test.YtoeeobebkalglaaFac
import Derived.Test.YtoeeobebkalglaaOrt
import Derived.Test.YtoeeobebkalglaaApq
import Derived.Test.YtoeeobebkalglaaFly
import Derived.Test.YtoeeobebkalglaaOpn
import Derived.Test.YtoeeobebkalglaaFrw
import Derived.IntWalk
import Derived.Deep.DeepCutAuto
namespace Go.Proofs.Ytoeeobebkalglaa
open Go.RowKit Go.Ease

theorem act12 {w : World} {b : Nat} {a0 a1 a2 a3 a4 a5 a6 : Value} {t : TypeId} (h : w.heap[b]? = some (.cells #[a0, a1, a2, a3, a4, a5, a6] t (0, 0))) : w.cell? ⟨b, 1, none⟩ = some a1 ∧ w.cell? ⟨b, 2, none⟩ = some a2 := by
  refine ⟨?_, ?_⟩ <;> (rw [cell_of_row w b _ _ _ _ h]; rfl)

section
set_option maxHeartbeats 4000000
set_option maxRecDepth 100000 in
theorem step_0 {k0 : Nat} {st : FS} (hI : MInv k0 st) (hk0 : k0 ≤ 100) {w : World} {B0 p mb mp base : Nat} (hall : Fo w p mb st ∧ Mo w mp base (ones st.l) st.next ∧ (p < base ∧ mb < base ∧ p ≠ mp ∧ mb ≠ mp) ∧ B0 ≤ p ∧ B0 ≤ mb ∧ B0 ≤ mp) (a : Actv) (ha : a.ok) (hkind : a.kind % 5 = 0) :
    Calls Try.prog 23 (#[.pointer (some ⟨p, 0, none⟩), .pointer (some ⟨mp, 0, none⟩), .agg a.cells.toArray]) w fun e w' => e = .returned (.bool true) ∧ StepTo B0 w k0 p mb mp base w' := by
  obtain ⟨hf, hm, hp, hB1, hB2, hB3⟩ := hall
  obtain ⟨a0, a1, a2, a3, a4, a5, a6⟩ := a
  obtain ⟨⟨x1, x2⟩, x3, x4, x5, x6, x7⟩ := ha
  simp only at x1 x2 x3 x4 x5 x6 x7 hkind
  have hu1 : 0 ≤ IntKind.u64.wrap a1 := by simp only [IntKind.wrap, IntKind.bits, IntKind.signed]; simp; omega
  have hu2 : 0 ≤ IntKind.u64.wrap a2 := by simp only [IntKind.wrap, IntKind.bits, IntKind.signed]; simp; omega
  obtain ⟨hv, hhv⟩ : ∃ h : Int, h = IntKind.u64.wrap a1 % 12 := ⟨_, rfl⟩
  obtain ⟨nv, hnv⟩ : ∃ h : Int, h = IntKind.u64.wrap a2 % 12 := ⟨_, rfl⟩
  have hh0 : 0 ≤ hv ∧ hv ≤ 11 := by omega
  have hn0 : 0 ≤ nv ∧ nv ≤ 11 := by omega
  have e1 : IntKind.i64.wrap ((IntKind.u64.wrap a1).tmod 12) = hv := by rw [Int.tmod_eq_emod_of_nonneg hu1, ← hhv, IntWalk.i64_in _ (by omega)]
  have e2 : IntKind.i64.wrap ((IntKind.u64.wrap a2).tmod 12) = nv := by rw [Int.tmod_eq_emod_of_nonneg hu2, ← hnv, IntWalk.i64_in _ (by omega)]
  obtain ⟨wv, hwv⟩ : ∃ h : Int, h = a3 % 4 := ⟨_, rfl⟩
  obtain ⟨tv, htv⟩ : ∃ h : Int, h = a4 % 4 := ⟨_, rfl⟩
  have hw0 : 0 ≤ wv ∧ wv ≤ 3 := by omega
  have ht0 : 0 ≤ tv ∧ tv ≤ 3 := by omega
  have e3 : a3.tmod 4 = wv := by rw [Int.tmod_eq_emod_of_nonneg x5.1, ← hwv]
  have e4 : a4.tmod 4 = tv := by rw [Int.tmod_eq_emod_of_nonneg x6.1, ← htv]
  have e3' : a3 % 4 = wv := hwv.symm
  have e4' : a4 % 4 = tv := htv.symm
  obtain ⟨hlt, hle, sa, cap, hmb, hmo⟩ := hm
  rw [ones_len] at hmb hmo
  have hrd := Rd.of_owns hmo
  have hsl := hI.ln
  have HF := Lib.hid hf
  have HM := Lib.hid (And.intro hmb (And.intro hmo hrd))
  have HI := Lib.hid hI
  have HP := Lib.hid hp
  have hpl := hf.lt
  have hmbl := hf.mp.lt
  have HE := Lib.hid (And.intro e1 (And.intro e2 (And.intro e3 (And.intro e4 (And.intro e3' e4')))))
  have hfd := fun (wx : World) (hb : Below w.heap.size w wx) (n' : Int) => find1_any (l := ones st.l) (cap := cap) (sa := sa) (mp := mp) (by rw [ones_len, World.cell?_of_block (w := w) (a := ⟨mp, 0, none⟩) (hb.block mp (by omega)), cell_of_row w mp _ _ _ _ hmb]; rfl) (Nat.lt_of_lt_of_le (by omega) hb.size) (by rw [ones_len]; exact hrd.same hb.size (fun g hg => hb.block g (hrd.lt hg))) (by rw [ones_len]; omega) n'
  have HFD := Lib.hid hfd
  clear hu1 hu2 hhv hnv hwv htv e1 e2 e3 e4 e3' e4' hf hmb hmo hrd hI hp hfd
  show Calls Try.prog 23 #[.pointer (some ⟨p, 0, none⟩), .pointer (some ⟨mp, 0, none⟩), .agg #[.int .u8 a0, .int .i64 a1, .int .i64 a2, .int .u32 a3, .int .u32 a4, .int .u8 a5, .int .i64 a6]] w _
  go_enter Try.func23, Try.ntmps23
  go_upto_region 1 with (fail)
  -- THE ACT, h, n
  have hA0 := heap_alloc_new w (.cells #[.int .u8 a0, .int .i64 a1, .int .i64 a2, .int .u32 a3, .int .u32 a4, .int .u8 a5, .int .i64 a6] 37)
  have hb0 : Below w.heap.size w (w.alloc (.cells #[.int .u8 a0, .int .i64 a1, .int .i64 a2, .int .u32 a3, .int .u32 a4, .int .u8 a5, .int .i64 a6] 37)) := (Below.refl _ _).alloc (Nat.le_refl _) _
  have hz0 : (w.alloc (.cells #[.int .u8 a0, .int .i64 a1, .int .i64 a2, .int .u32 a3, .int .u32 a4, .int .u8 a5, .int .i64 a6] 37)).heap.size = w.heap.size + 1 := by simp
  generalize (w.alloc (.cells #[.int .u8 a0, .int .i64 a1, .int .i64 a2, .int .u32 a3, .int .u32 a4, .int .u8 a5, .int .i64 a6] 37)) = w0 at *
  obtain ⟨e1, e2, -⟩ := HE.out
  refine wp_region_ord (fun w' => w'.cell? ⟨w.heap.size, 1, none⟩ = some (.int .i64 a1) ∧ w'.cell? ⟨w.heap.size, 2, none⟩ = some (.int .i64 a2)) 12 [(0,0),(1,0),(2,0),(3,0),(4,0),(5,0),(6,0),(7,0),(8,0),(9,0),(10,1),(11,1),(12,0)] (by as_aux_lemma => kernel_rfl) (by as_aux_lemma => kernel_rfl) (fun c a d v w h => by cases d <;> exact h) (act12 hA0) ?_
  have HA0 := Lib.hid (And.intro hA0 (And.intro hb0 hz0))
  clear hA0 hb0 hz0
  repeat (first | (refine wpOrd_skip rfl rfl ?_; simp only [Act.put, List.setIfInBounds_toArray, List.set_cons_succ, List.set_cons_zero]) | (refine wpOrd_pure rfl rfl ?_; apply Exists.intro; refine ⟨fun wq => ?_, ?_⟩; (go_simp <;> rfl); simp only [Act.put, List.setIfInBounds_toArray, List.set_cons_succ, List.set_cons_zero]) | (refine wpOrd_read rfl rfl (by decide) ?_; apply Exists.intro; refine ⟨fun wq hq => ?_, ?_⟩; (go_simp <;> rfl); simp only [Act.put, List.setIfInBounds_toArray, List.set_cons_succ, List.set_cons_zero]))
  refine wpOrd_act rfl (by decide) (fun K hK => ?_)
  go_wp2_with fail
  refine hK _ _ ?_ (fun hS => ?_)
  all_goals (clear hK K)
  · exact act12 ((Below.heap_alloc _ _ _ (by have := HA0.out.2.2; simp; omega)).trans HA0.out.1)
  refine wpOrd_act rfl (by decide) (fun K hK => ?_)
  go_wp2_with fail
  refine hK _ _ ?_ (fun hS => ?_)
  all_goals (clear hK K)
  · exact act12 ((Below.heap_alloc _ _ _ (by have := HA0.out.2.2; simp; omega)).trans HA0.out.1)
  repeat (first | (refine wpOrd_skip rfl rfl ?_; simp only [Act.put, List.setIfInBounds_toArray, List.set_cons_succ, List.set_cons_zero]) | (refine wpOrd_pure rfl rfl ?_; apply Exists.intro; refine ⟨fun wq => ?_, ?_⟩; (go_simp <;> rfl); simp only [Act.put, List.setIfInBounds_toArray, List.set_cons_succ, List.set_cons_zero]) | (refine wpOrd_read rfl rfl (by decide) ?_; apply Exists.intro; refine ⟨fun wq hq => ?_, ?_⟩; (go_simp <;> rfl); simp only [Act.put, List.setIfInBounds_toArray, List.set_cons_succ, List.set_cons_zero]))
  refine wpOrd_nil ?_
  have hA1 : (w0.alloc (.cells #[.int .i64 hv] 3)).drew.heap[w.heap.size]? = some (.cells #[.int .u8 a0, .int .i64 a1, .int .i64 a2, .int .u32 a3, .int .u32 a4, .int .u8 a5, .int .i64 a6] 37 (0, 0)) := (Below.heap_alloc _ _ _ (by have := HA0.out.2.2; omega)).trans HA0.out.1
  have hB1' : (w0.alloc (.cells #[.int .i64 hv] 3)).drew.heap[w.heap.size + 1]? = some (.cells #[.int .i64 hv] 3 (0, 0)) := by
    have := heap_alloc_new w0 (.cells #[.int .i64 hv] 3)
    rw [HA0.out.2.2] at this
    exact this
  have hb1 : Below w.heap.size w (w0.alloc (.cells #[.int .i64 hv] 3)).drew := (HA0.out.2.1.alloc (by have := HA0.out.2.2; omega) _).drew
  have hz1 : (w0.alloc (.cells #[.int .i64 hv] 3)).drew.heap.size = w.heap.size + 2 := by have := HA0.out.2.2; simp; omega
  have hzz : w0.heap.size = w.heap.size + 1 := HA0.out.2.2
  rw [hzz]
  clear e1 e2 hzz
  generalize (w0.alloc (.cells #[.int .i64 hv] 3)).drew = w1 at *
  have H1 := Lib.hid (And.intro hA1 (And.intro hB1' (And.intro hb1 hz1)))
  clear hA1 hB1' hb1 hz1
  go_upto_region 2 with (fail)
  obtain ⟨-, -, e3, e4, e3', e4'⟩ := HE.out
  refine wp_region_ord (fun w' => w'.cell? ⟨w.heap.size, 3, none⟩ = some (.int .u32 a3) ∧ w'.cell? ⟨w.heap.size, 4, none⟩ = some (.int .u32 a4)) 8 [(0,0),(1,0),(2,0),(3,0),(4,0),(5,0),(6,1),(7,1),(8,0)] (by as_aux_lemma => kernel_rfl) (by as_aux_lemma => kernel_rfl) (fun c a d v w h => by cases d <;> exact h) ⟨(seven_cells H1.out.1).2.2.2.1, (seven_cells H1.out.1).2.2.2.2.1⟩ ?_
  repeat (first | (refine wpOrd_skip rfl rfl ?_; simp only [Act.put, List.setIfInBounds_toArray, List.set_cons_succ, List.set_cons_zero]) | (refine wpOrd_pure rfl rfl ?_; apply Exists.intro; refine ⟨fun wq => ?_, ?_⟩; (go_simp <;> rfl); simp only [Act.put, List.setIfInBounds_toArray, List.set_cons_succ, List.set_cons_zero]) | (refine wpOrd_read rfl rfl (by decide) ?_; apply Exists.intro; refine ⟨fun wq hq => ?_, ?_⟩; (go_simp <;> rfl); simp only [Act.put, List.setIfInBounds_toArray, List.set_cons_succ, List.set_cons_zero]))
  refine wpOrd_act rfl (by decide) (fun K hK => ?_)
  go_wp2_with fail
  refine hK _ _ ?_ (fun hS => ?_)
  all_goals (clear hK K)
  · have := seven_cells ((Below.heap_alloc w1 (.cells #[.int .u32 0] 33) w.heap.size (by have := H1.out.2.2.2; omega)).trans H1.out.1)
    exact ⟨this.2.2.2.1, this.2.2.2.2.1⟩
  refine wpOrd_act rfl (by decide) (fun K hK => ?_)
  go_wp2_with fail
  refine hK _ _ ?_ (fun hS => ?_)
  all_goals (clear hK K)
  · have := seven_cells ((Below.heap_alloc w1 (.cells #[.int .u32 wv] 33) w.heap.size (by have := H1.out.2.2.2; omega)).trans H1.out.1)
    exact ⟨this.2.2.2.1, this.2.2.2.2.1⟩
  repeat (first | (refine wpOrd_skip rfl rfl ?_; simp only [Act.put, List.setIfInBounds_toArray, List.set_cons_succ, List.set_cons_zero]) | (refine wpOrd_pure rfl rfl ?_; apply Exists.intro; refine ⟨fun wq => ?_, ?_⟩; (go_simp <;> rfl); simp only [Act.put, List.setIfInBounds_toArray, List.set_cons_succ, List.set_cons_zero]) | (refine wpOrd_read rfl rfl (by decide) ?_; apply Exists.intro; refine ⟨fun wq hq => ?_, ?_⟩; (go_simp <;> rfl); simp only [Act.put, List.setIfInBounds_toArray, List.set_cons_succ, List.set_cons_zero]))
  refine wpOrd_nil ?_
  have hA2 : (w1.alloc (.cells #[.int .u32 wv] 33)).drew.heap[w.heap.size]? = some (.cells #[.int .u8 a0, .int .i64 a1, .int .i64 a2, .int .u32 a3, .int .u32 a4, .int .u8 a5, .int .i64 a6] 37 (0, 0)) := (Below.heap_alloc _ _ _ (by have := H1.out.2.2.2; omega)).trans H1.out.1
  have hB2' : (w1.alloc (.cells #[.int .u32 wv] 33)).drew.heap[w.heap.size + 1]? = some (.cells #[.int .i64 hv] 3 (0, 0)) := (Below.heap_alloc _ _ _ (by have := H1.out.2.2.2; omega)).trans H1.out.2.1
  have hC2 : (w1.alloc (.cells #[.int .u32 wv] 33)).drew.heap[w.heap.size + 2]? = some (.cells #[.int .u32 wv] 33 (0, 0)) := by
    have := heap_alloc_new w1 (.cells #[.int .u32 wv] 33)
    rw [H1.out.2.2.2] at this
    exact this
  have hb2 : Below w.heap.size w (w1.alloc (.cells #[.int .u32 wv] 33)).drew := (H1.out.2.2.1.alloc (by have := H1.out.2.2.2; omega) _).drew
  have hz2 : (w1.alloc (.cells #[.int .u32 wv] 33)).drew.heap.size = w.heap.size + 3 := by have := H1.out.2.2.2; simp; omega
  have hzz : w1.heap.size = w.heap.size + 2 := H1.out.2.2.2
  rw [hzz]
  clear e3 e4 e3' e4' hzz
  generalize (w1.alloc (.cells #[.int .u32 wv] 33)).drew = w2 at *
  have hq1 := cell1 hB2'
  have hqz : w.heap.size + 3 ≤ w2.heap.size := by omega
  have H2 := Lib.hid (And.intro hA2 (And.intro hB2' (And.intro hC2 (And.intro hb2 hz2))))
  clear hA2 hB2' hC2 hb2 hz2
  have hf3 := HFD.out w2 H2.out.2.2.2.1 hv
  have hat := atN_cases HI.out hv
  have HAT := Lib.hid hat
  obtain ⟨kv, hkv⟩ : ∃ k, k = placeOf (fun x : One => x.n == hv) (ones st.l) := ⟨_, rfl⟩
  rw [← hkv] at hf3
  have HKV := Lib.hid hkv
  have HF3 := Lib.hid hf3
  clear hf3 hkv hat
  go_upto_region 4 with (go_at_call 36; go_must (refine (HF3.out).mono ?_); rintro ex w3 ⟨rfl, hbf⟩; have H3 := Lib.hid hbf; clear hbf)
  have hse : SEnv w (w3.alloc (.cells #[.int .i64 kv] 3)) a0 a1 a2 a3 a4 a5 a6 hv wv kv w3.heap.size := by
    have h3 := H3.out
    have hz3 := h3.size
    refine ⟨?_, ?_, ?_, ⟨by omega, by simp⟩, heap_alloc_new _ _, (H2.out.2.2.2.1.trans (h3.mono H2.out.2.2.2.1.size)).alloc (by omega) _⟩
    · exact (Below.heap_alloc _ _ _ (by omega)).trans ((h3.block _ (by omega)).trans H2.out.1)
    · exact (Below.heap_alloc _ _ _ (by omega)).trans ((h3.block _ (by omega)).trans H2.out.2.1)
    · exact (Below.heap_alloc _ _ _ (by omega)).trans ((h3.block _ (by omega)).trans H2.out.2.2.1)
  generalize w3.heap.size = kb at *
  generalize (w3.alloc (.cells #[.int .i64 kv] 3)) = w4 at *
  have HSE := Lib.hid hse
  clear hse hq1 hqz
  go_cut [12] from 39 to 52 (fun s12 wx => s12 = .bool (mineB st hv wv) ∧ SEnv w wx a0 a1 a2 a3 a4 a5 a6 hv wv kv kb)
  case first =>
    have hsq := HSE.out
    have hat := HAT.out
    have hkv := HKV.out
    obtain ⟨hmb, hmo, hrd⟩ := HM.out
    have hm4 : w4.cell? ⟨mp, 0, none⟩ = some (.slice sa st.l.length cap) := by rw [World.cell?_of_block (w := w) (a := ⟨mp, 0, none⟩) (hsq.bl.block mp (by omega)), cell_of_row w mp _ _ _ _ hmb]; rfl
    have hc1 := cell1 hsq.kc
    have hc2 := cell1 hsq.wb
    rcases hat with ⟨i, e, ha, hi, hfe, hh, hee⟩ | ⟨ha, hfe⟩
    · have hki : kv = i := by rw [hkv]; exact ha
      subst hki
      have hil : i < st.l.length := (List.getElem?_eq_some_iff.1 hi).1
      rcases hrd.2 with ⟨_, hz⟩ | ⟨g0, off, cap', he, _, hgl, hcc⟩
      · omega
      cases he
      have h6 := (one_cells hcc (by rw [ones_get, hi]; rfl : (ones st.l)[i]? = some (One.of e))).2.2.2.2.2
      have hm6 : w4.cell? ⟨g0, off + i * 6 + 5, none⟩ = some (.int .u32 e.own) := by rw [World.cell?_of_block (w := w) (a := ⟨g0, off + i * 6 + 5, none⟩) (hsq.bl.block g0 hgl)]; exact h6
      have hmine : mineB st hv wv = (e.own == wv) := by simp only [mineB, hfe]
      have HMN := Lib.hid hmine
      have hil0 : (0 : Int) ≤ (i : Int) := by omega
      have hdi : decide ((0 : Int) ≤ (i : Int)) = true := by simp
      clear hsq hkv hmb hmo hrd hcc h6 hi hfe hh hee ha hmine
      refine wp_region_ord (fun w' => w'.cell? ⟨kb, 0, none⟩ = some (.int .i64 i) ∧ w'.cell? ⟨w.heap.size + 2, 0, none⟩ = some (.int .u32 wv) ∧ w'.cell? ⟨mp, 0, none⟩ = some (.slice (some ⟨g0, off, none⟩) st.l.length cap) ∧ w'.cell? ⟨g0, off + i * 6 + 5, none⟩ = some (.int .u32 e.own)) 15 [(0,0),(1,0),(2,0),(3,0),(4,0),(5,0),(6,0),(7,0),(8,0),(9,0),(10,0),(11,0),(12,0),(13,0),(14,0)] (by as_aux_lemma => kernel_rfl) (by as_aux_lemma => kernel_rfl) (fun c a d v w h => by cases d <;> exact h) ⟨hc1, hc2, hm4, hm6⟩ ?_
      repeat (first | (refine wpOrd_skip rfl rfl ?_; simp only [Act.put, List.setIfInBounds_toArray, List.set_cons_succ, List.set_cons_zero]) | (refine wpOrd_pure rfl rfl ?_; apply Exists.intro; refine ⟨fun wq => ?_, ?_⟩; (go_simp <;> rfl); simp only [Act.put, List.setIfInBounds_toArray, List.set_cons_succ, List.set_cons_zero]) | (refine wpOrd_read rfl rfl (by decide) ?_; apply Exists.intro; refine ⟨fun wq hq => ?_, ?_⟩; (go_simp <;> rfl); simp only [Act.put, List.setIfInBounds_toArray, List.set_cons_succ, List.set_cons_zero]))
      refine wpOrd_nil ?_
      go_wp2_with fail
      go_meet
      exact ⟨by rw [HMN.out], HSE.out.same (Below.refl _ _).drew⟩
    · have hki : kv = -1 := by rw [hkv]; exact ha
      subst hki
      have hmine : mineB st hv wv = false := by simp only [mineB, hfe]
      have HMN := Lib.hid hmine
      clear hsq hkv hmb hmo hrd hfe ha hmine
      refine wp_region_ord (fun w' => w'.cell? ⟨kb, 0, none⟩ = some (.int .i64 (-1))) 15 [(0,0),(1,0),(2,0),(3,0),(4,0),(5,0),(6,0),(7,0),(8,0),(9,0),(10,0),(11,0),(12,0),(13,0),(14,0)] (by as_aux_lemma => kernel_rfl) (by as_aux_lemma => kernel_rfl) (fun c a d v w h => by cases d <;> exact h) hc1 ?_
      repeat (first | (refine wpOrd_skip rfl rfl ?_; simp only [Act.put, List.setIfInBounds_toArray, List.set_cons_succ, List.set_cons_zero]) | (refine wpOrd_pure rfl rfl ?_; apply Exists.intro; refine ⟨fun wq => ?_, ?_⟩; (go_simp <;> rfl); simp only [Act.put, List.setIfInBounds_toArray, List.set_cons_succ, List.set_cons_zero]) | (refine wpOrd_read rfl rfl (by decide) ?_; apply Exists.intro; refine ⟨fun wq hq => ?_, ?_⟩; (go_simp <;> rfl); simp only [Act.put, List.setIfInBounds_toArray, List.set_cons_succ, List.set_cons_zero]))
      refine wpOrd_nil ?_
      go_wp2_with fail
      go_meet
      exact ⟨by rw [HMN.out], HSE.out.same (Below.refl _ _).drew⟩
  case rest =>
  obtain ⟨rfl, hse5⟩ := hcut
  have HSE5 := Lib.hid hse5
  clear hse5 HSE
  go_upto_region 5 with (fail)
  go_cut [13] from 53 to 60 (fun s13 wx => s13 = .bool (freeB st nv) ∧ SEnv w wx a0 a1 a2 a3 a4 a5 a6 hv wv kv kb)
  case first =>
    by_cases hn1 : nv = 0
    · have hfr : freeB st nv = false := by simp [freeB, hn1]
      have HFR := Lib.hid hfr
      clear hfr
      have hn2 : (nv != 0) = false := by simpa using hn1
      clear hn1
      go_wp2_with fail
      go_meet
      exact ⟨by rw [HFR.out], HSE5.out⟩
    · have hn2 : (nv != 0) = true := by simpa using hn1
      have hf5 := HFD.out wc HSE5.out.bl nv
      rcases atN_cases HI.out nv with ⟨i, e, ha, -, hfe, -, -⟩ | ⟨ha, hfe⟩
      · have hfr : freeB st nv = false := by simp [freeB, hfe]
        unfold atN at ha
        rw [ha] at hf5
        have HF5 := Lib.hid hf5
        have HFR := Lib.hid hfr
        have hdi : decide ((i : Int) < 0) = false := by simp
        clear hf5 ha hfe hn1 hfr
        go_wp2_with (go_at_call 36; go_must (refine (HF5.out).mono ?_); rintro ex w5 ⟨rfl, hbf⟩; have H5 := Lib.hid hbf; clear hbf)
        go_meet
        exact ⟨by rw [HFR.out], HSE5.out.same H5.out⟩
      · have hfr : freeB st nv = true := by simp [freeB, hfe, hn1]
        unfold atN at ha
        rw [ha] at hf5
        have HF5 := Lib.hid hf5
        have HFR := Lib.hid hfr
        clear hf5 ha hfe hn1 hfr
        go_wp2_with (go_at_call 36; go_must (refine (HF5.out).mono ?_); rintro ex w5 ⟨rfl, hbf⟩; have H5 := Lib.hid hbf; clear hbf)
        go_meet
        exact ⟨by rw [HFR.out], HSE5.out.same H5.out⟩
  case rest =>
  obtain ⟨rfl, hse5⟩ := hcut
  have hf5 : Fo wc p mb st := HF.out.below hse5.bl
  have hm5 : Mo wc mp base (ones st.l) st.next := Mo.below ⟨hlt, hle, sa, cap, by rw [ones_len]; exact HM.out.1, by rw [ones_len]; exact HM.out.2.1⟩ hse5.bl
  have q5 := seven_cells hse5.act
  have qw := cell1 hse5.wb
  have hwz := hse5.bl.size
  have hkr := hse5.kr
  have HSE := Lib.hid hse5
  have HFM := Lib.hid (And.intro hf5 hm5)
  clear hse5 HSE5 hf5 hm5 HE HFD HA0 H1 H2 H3 HF3
  obtain ⟨q0, q1, q2, q3, q4, q5', q6⟩ := q5
  obtain ⟨fr, hfr⟩ : ∃ b, b = freeB st nv := ⟨_, rfl⟩
  rw [← hfr]
  have hh1 := handle_any nv (by omega)
  have hh2 := handle_any 3 (by decide)
  simp only [Hd.v] at hh1 hh2
  have HH1 := Lib.hid hh1
  have HH2 := Lib.hid hh2
  have hk5 : (a0 % 5 == 0) = true := by rw [hkind]; rfl
  by_cases hbad : fr = false ∨ 31 < a5
  · have hR := fun (wx : World) (hx : Fo wx p mb st) => root_bad hx ⟨⟨0, nv⟩, a6, a5, wv, ⟨0, 3⟩, 99⟩ (by simp only [Hd.ok]; omega) x7.1 (by
      rcases hbad with hb | hb
      · rw [hfr] at hb
        simp only [freeB, Bool.and_eq_false_iff, decide_eq_false_iff_not, Decidable.not_not] at hb
        rcases hb with hb | hb
        · exact .inl (by rw [hb])
        · refine .inr (.inl ?_)
          cases hq : st.find ⟨0, nv⟩ with
          | none => rw [hq] at hb; cases hb
          | some e => rfl
      · exact .inr (.inr hb))
    have HR := Lib.hid hR
    have HFRE := Lib.hid hfr
    clear hh1 hh2 hR hfr
    go_upto_region 8 with (fail)
    refine wp_region_ord (fun w' => w'.cell? ⟨w.heap.size, 6, none⟩ = some (.int .i64 a6) ∧ w'.cell? ⟨w.heap.size, 5, none⟩ = some (.int .u8 a5) ∧ w'.cell? ⟨w.heap.size + 2, 0, none⟩ = some (.int .u32 wv)) 11 [(0,0),(1,0),(3,0),(4,0),(5,0),(6,0),(7,0),(2,1),(8,1),(9,0),(10,1),(11,0)] (by as_aux_lemma => kernel_rfl) (by as_aux_lemma => kernel_rfl) (fun c a d v w h => by cases d <;> exact h) ⟨q6, q5', qw⟩ ?_
    clear q0 q1 q2 q3 q4 q5' q6 qw
    repeat (first | (refine wpOrd_skip rfl rfl ?_; simp only [Act.put, List.setIfInBounds_toArray, List.set_cons_succ, List.set_cons_zero]) | (refine wpOrd_pure rfl rfl ?_; apply Exists.intro; refine ⟨fun wq => ?_, ?_⟩; (go_simp <;> rfl); simp only [Act.put, List.setIfInBounds_toArray, List.set_cons_succ, List.set_cons_zero]) | (refine wpOrd_read rfl rfl (by decide) ?_; apply Exists.intro; refine ⟨fun wq hq => ?_, ?_⟩; (go_simp <;> rfl); simp only [Act.put, List.setIfInBounds_toArray, List.set_cons_succ, List.set_cons_zero]))
    refine wpOrd_act rfl (by decide) (fun K hK => ?_)
    go_wp2_with (go_at_call 9; go_must (refine (HH1.out _).mono ?_); rintro ex w7 ⟨rfl, hb7⟩; have H7 := Lib.hid (And.intro (HSE.out.same (below_undrew hb7)) (HFM.out.1.below (below_undrew hb7))); have B7 := Lib.hid (below_undrew hb7); clear hb7)
    refine hK _ _ ?_ (fun hS => ?_)
    all_goals (clear hK K)
    · have h := H7.out.1
      have h7 := seven_cells h.act
      exact ⟨h7.2.2.2.2.2.2, h7.2.2.2.2.2.1, cell1 h.wb⟩
    refine wpOrd_act rfl (by decide) (fun K hK => ?_)
    go_wp2_with (go_at_call 9; go_must (refine (HH2.out _).mono ?_); rintro ex w8 ⟨rfl, hb8⟩; have H8 := Lib.hid (And.intro (H7.out.1.same hb8) (H7.out.2.below hb8)); have B8 := Lib.hid (B7.out.trans (hb8.mono B7.out.size)); clear hb8)
    refine hK _ _ ?_ (fun hS => ?_)
    all_goals (clear hK K)
    · have h := H8.out.1
      have h7 := seven_cells h.act
      exact ⟨h7.2.2.2.2.2.2, h7.2.2.2.2.2.1, cell1 h.wb⟩
    repeat (first | (refine wpOrd_skip rfl rfl ?_; simp only [Act.put, List.setIfInBounds_toArray, List.set_cons_succ, List.set_cons_zero]) | (refine wpOrd_pure rfl rfl ?_; apply Exists.intro; refine ⟨fun wq => ?_, ?_⟩; (go_simp <;> rfl); simp only [Act.put, List.setIfInBounds_toArray, List.set_cons_succ, List.set_cons_zero]) | (refine wpOrd_read rfl rfl (by decide) ?_; apply Exists.intro; refine ⟨fun wq hq => ?_, ?_⟩; (go_simp <;> rfl); simp only [Act.put, List.setIfInBounds_toArray, List.set_cons_succ, List.set_cons_zero]))
    refine wpOrd_act rfl (by decide) (fun K hK => ?_)
    go_wp2_with (go_at_call 8; go_must (refine (HR.out _ (by exact H8.out.2)).mono ?_); rintro ex w9 ⟨rfl, hb9⟩; have H9 := Lib.hid (And.intro (H8.out.1.same hb9) (H8.out.2.below hb9)); have B9 := Lib.hid (B8.out.trans (hb9.mono B8.out.size)); clear hb9)
    refine hK _ _ ?_ (fun hS => ?_)
    all_goals (clear hK K)
    · have h := H9.out.1
      have h7 := seven_cells h.act
      exact ⟨h7.2.2.2.2.2.2, h7.2.2.2.2.2.1, cell1 h.wb⟩
    repeat (first | (refine wpOrd_skip rfl rfl ?_; simp only [Act.put, List.setIfInBounds_toArray, List.set_cons_succ, List.set_cons_zero]) | (refine wpOrd_pure rfl rfl ?_; apply Exists.intro; refine ⟨fun wq => ?_, ?_⟩; (go_simp <;> rfl); simp only [Act.put, List.setIfInBounds_toArray, List.set_cons_succ, List.set_cons_zero]) | (refine wpOrd_read rfl rfl (by decide) ?_; apply Exists.intro; refine ⟨fun wq hq => ?_, ?_⟩; (go_simp <;> rfl); simp only [Act.put, List.setIfInBounds_toArray, List.set_cons_succ, List.set_cons_zero]))
    refine wpOrd_nil ?_
    have q5' := (seven_cells H9.out.1.act).2.2.2.2.2.1
    have hmo9 : Mo w9 mp base (ones st.l) st.next := HFM.out.2.below B9.out
    have HM9 := Lib.hid hmo9
    clear hmo9
    cases fr with
    | false =>
      go_wp2
      go_ret
      exact ⟨rfl, st, HI.out.mono (by omega), H9.out.2, HM9.out, fun hB => H9.out.1.bl.mono hB, fun A hA _ _ _ _ => H9.out.1.bl.block A hA⟩
    | true =>
      have h31 : 31 < a5 := by simpa using hbad
      go_wp2
      go_ret
      exact ⟨rfl, st, HI.out.mono (by omega), H9.out.2, HM9.out, fun hB => H9.out.1.bl.mono hB, fun A hA _ _ _ _ => H9.out.1.bl.block A hA⟩
  · have hfr1 : fr = true := by cases fr <;> simp_all
    subst hfr1
    have h31 : ¬ 31 < a5 := fun h => hbad (.inr h)
    have hn1 : nv ≠ 0 ∧ st.find ⟨0, nv⟩ = none := by
      simp only [freeB, Bool.true_eq, Bool.and_eq_true, decide_eq_true_eq, Option.isNone_iff_eq_none] at hfr
      exact hfr
    have hR := fun (wx : World) (hx : Fo wx p mb st) => root_ok hx HI.out.ok ⟨⟨0, nv⟩, a6, a5, wv, ⟨0, 3⟩, 99⟩ (by simp only [Hd.ok]; omega) x7.1 (by simp [hn1.1]) (by rw [hn1.2]; rfl) (by simp only; omega) (by omega)
    have hI' := HI.out.root (by omega) nv a6 a5 wv (by omega) (by omega) (by rw [hn1.2]; rfl) ⟨0, 3⟩ 99
    have HR := Lib.hid hR
    have HI' := Lib.hid hI'
    clear hh1 hh2 hR hfr hbad hn1 hI'
    have hpB : ∀ k, FS.F p mb k → k < w.heap.size := fun k hk => by rcases hk with rfl | rfl <;> omega
    have HPB := Lib.hid hpB
    clear hpB
    go_upto_region 8 with (fail)
    refine wp_region_ord (fun w' => w'.cell? ⟨w.heap.size, 6, none⟩ = some (.int .i64 a6) ∧ w'.cell? ⟨w.heap.size, 5, none⟩ = some (.int .u8 a5) ∧ w'.cell? ⟨w.heap.size + 2, 0, none⟩ = some (.int .u32 wv)) 11 [(0,0),(1,0),(3,0),(4,0),(5,0),(6,0),(7,0),(2,1),(8,1),(9,0),(10,1),(11,0)] (by kernel_rfl) (by kernel_rfl) (fun c a d v w h => by cases d <;> exact h) ⟨q6, q5', qw⟩ ?_
    clear q0 q1 q2 q3 q4 q5' q6 qw
    repeat (first | (refine wpOrd_skip rfl rfl ?_; simp only [Act.put, List.setIfInBounds_toArray, List.set_cons_succ, List.set_cons_zero]) | (refine wpOrd_pure rfl rfl ?_; apply Exists.intro; refine ⟨fun wq => ?_, ?_⟩; (go_simp <;> rfl); simp only [Act.put, List.setIfInBounds_toArray, List.set_cons_succ, List.set_cons_zero]) | (refine wpOrd_read rfl rfl (by decide) ?_; apply Exists.intro; refine ⟨fun wq hq => ?_, ?_⟩; (go_simp <;> rfl); simp only [Act.put, List.setIfInBounds_toArray, List.set_cons_succ, List.set_cons_zero]))
    refine wpOrd_act rfl (by decide) (fun K hK => ?_)
    go_wp2_with (go_at_call 9; go_must (refine (HH1.out _).mono ?_); rintro ex w7 ⟨rfl, hb7⟩; have H7 := Lib.hid (And.intro (HSE.out.same (below_undrew hb7)) (HFM.out.1.below (below_undrew hb7))); have B7 := Lib.hid (below_undrew hb7); clear hb7)
    refine hK _ _ ?_ (fun hS => ?_)
    all_goals (clear hK K)
    · have h := H7.out.1
      have h7 := seven_cells h.act
      exact ⟨h7.2.2.2.2.2.2, h7.2.2.2.2.2.1, cell1 h.wb⟩
    refine wpOrd_act rfl (by decide) (fun K hK => ?_)
    go_wp2_with (go_at_call 9; go_must (refine (HH2.out _).mono ?_); rintro ex w8 ⟨rfl, hb8⟩; have H8 := Lib.hid (And.intro (H7.out.1.same hb8) (H7.out.2.below hb8)); have B8 := Lib.hid (B7.out.trans (hb8.mono B7.out.size)); clear hb8)
    refine hK _ _ ?_ (fun hS => ?_)
    all_goals (clear hK K)
    · have h := H8.out.1
      have h7 := seven_cells h.act
      exact ⟨h7.2.2.2.2.2.2, h7.2.2.2.2.2.1, cell1 h.wb⟩
    repeat (first | (refine wpOrd_skip rfl rfl ?_; simp only [Act.put, List.setIfInBounds_toArray, List.set_cons_succ, List.set_cons_zero]) | (refine wpOrd_pure rfl rfl ?_; apply Exists.intro; refine ⟨fun wq => ?_, ?_⟩; (go_simp <;> rfl); simp only [Act.put, List.setIfInBounds_toArray, List.set_cons_succ, List.set_cons_zero]) | (refine wpOrd_read rfl rfl (by decide) ?_; apply Exists.intro; refine ⟨fun wq hq => ?_, ?_⟩; (go_simp <;> rfl); simp only [Act.put, List.setIfInBounds_toArray, List.set_cons_succ, List.set_cons_zero]))
    refine wpOrd_act rfl (by decide) (fun K hK => ?_)
    go_wp2_with (go_at_call 8; go_must (refine (HR.out _ (by exact H8.out.2)).mono ?_); rintro ex w9 ⟨rfl, hs9, hf9⟩; have H9 := Lib.hid (And.intro (H8.out.1.stp hs9 HPB.out) (And.intro hf9 hs9)); clear hs9 hf9)
    refine hK _ _ ?_ (fun hS => ?_)
    all_goals (clear hK K)
    · have h := H9.out.1
      have h7 := seven_cells h.1.1
      exact ⟨h7.2.2.2.2.2.2, h7.2.2.2.2.2.1, cell1 h.2.1⟩
    repeat (first | (refine wpOrd_skip rfl rfl ?_; simp only [Act.put, List.setIfInBounds_toArray, List.set_cons_succ, List.set_cons_zero]) | (refine wpOrd_pure rfl rfl ?_; apply Exists.intro; refine ⟨fun wq => ?_, ?_⟩; (go_simp <;> rfl); simp only [Act.put, List.setIfInBounds_toArray, List.set_cons_succ, List.set_cons_zero]) | (refine wpOrd_read rfl rfl (by decide) ?_; apply Exists.intro; refine ⟨fun wq hq => ?_, ?_⟩; (go_simp <;> rfl); simp only [Act.put, List.setIfInBounds_toArray, List.set_cons_succ, List.set_cons_zero]))
    refine wpOrd_nil ?_
    obtain ⟨p1, p2, p3, p4⟩ := HP.out
    have hmo9 : Mo w9 mp base (ones st.l) st.next := (HFM.out.2.below B8.out).stp H9.out.2.2 HP.out
    obtain ⟨-, hle9, sa9, cap9, hmb9, hmo9'⟩ := hmo9
    have hz9 := H9.out.2.2.size
    have hz8 := B8.out.size
    obtain ⟨-, q1, q2, q3, q4, q5', q6⟩ := seven_cells H9.out.1.1.1
    have qw := cell1 H9.out.1.2.1
    have qm0 : w9.cell? ⟨mp, 0, none⟩ = some (.slice sa9 (ones st.l).length cap9) := by rw [cell_of_row w9 mp _ _ _ _ hmb9]; rfl
    have qm1 : w9.cell? ⟨mp, 1, none⟩ = some (.int .i64 st.next) := by rw [cell_of_row w9 mp _ _ _ _ hmb9]; rfl
    have HM9 := Lib.hid (And.intro hmb9 hmo9')
    have hsa : sa9 = sa := by
      have hcell : w9.heap[mp]? = w.heap[mp]? := (H9.out.2.2.block mp (by omega) (fun h => by rcases h with h | h <;> omega)).trans ((B8.out.block mp (by omega)).trans (HSE.out.bl.block mp (by omega)))
      rw [hmb9, HM.out.1] at hcell
      simp only [Option.some.injEq, Obj.cells.injEq, Array.mk.injEq, List.cons.injEq, Value.slice.injEq, and_true] at hcell
      exact hcell.1
    have HSA := Lib.hid hsa
    clear hsa
    have hno : ∀ k, w.heap.size ≤ k → k < w9.heap.size → (Value.slice sa9 (ones st.l).length cap9).ownBlock ≠ some k := by
      intro k hk1 hk2 e
      have hcell : w9.heap[mp]? = w.heap[mp]? := (H9.out.2.2.block mp (by omega) (fun h => by rcases h with h | h <;> omega)).trans ((B8.out.block mp (by omega)).trans (HSE.out.bl.block mp (by omega)))
      rw [hmb9, HM.out.1] at hcell
      simp only [Option.some.injEq, Obj.cells.injEq, Array.mk.injEq, List.cons.injEq, Value.slice.injEq, and_true] at hcell
      have e' : (Value.slice sa st.l.length cap).ownBlock = some k := by
        rw [← hcell.1]
        exact (ownBlock_len _ _ _ _ _).trans e
      have hlt2 := (HM.out.2.1.lt k e').2
      omega
    have HNO := Lib.hid hno
    clear hno
    have hln : (ones st.l).length ≤ 1000 := by rw [ones_len]; omega
    have hnx := HI.out.nx
    have hn0' := HI.out.ok.next
    clear hmb9 hmo9'
    obtain ⟨i0, hi, hz0, hz1, hz2⟩ := info_parts info_one
    have HIN := Lib.hid (And.intro hi (And.intro hz0 (And.intro hz1 hz2)))
    clear hi hz0 hz1 hz2
    go_upto_region 11 with (fail)
    refine wp_region_ord (fun w' => (w'.cell? ⟨mp, 0, none⟩ = some (.slice sa9 (ones st.l).length cap9) ∧ w'.cell? ⟨mp, 1, none⟩ = some (.int .i64 st.next)) ∧ w'.cell? ⟨w.heap.size, 6, none⟩ = some (.int .i64 a6) ∧ w'.cell? ⟨w.heap.size, 5, none⟩ = some (.int .u8 a5) ∧ w'.cell? ⟨w.heap.size + 2, 0, none⟩ = some (.int .u32 wv)) 18 [(0,0),(1,0),(2,0),(3,0),(4,0),(5,0),(6,0),(7,0),(8,0),(9,0),(10,0),(11,0),(12,0),(13,0),(14,0),(15,0),(16,1),(17,1),(18,0),(19,0),(20,1)] (by kernel_rfl) (by kernel_rfl) (fun c a d v w h => by cases d <;> exact h) ⟨⟨qm0, qm1⟩, q6, q5', qw⟩ ?_
    clear qm0 qm1 q1 q2 q3 q4 q5' q6 qw
    repeat (first | (refine wpOrd_skip rfl rfl ?_; simp only [Act.put, List.setIfInBounds_toArray, List.set_cons_succ, List.set_cons_zero]) | (refine wpOrd_pure rfl rfl ?_; apply Exists.intro; refine ⟨fun wq => ?_, ?_⟩; (go_simp <;> rfl); simp only [Act.put, List.setIfInBounds_toArray, List.set_cons_succ, List.set_cons_zero]) | (refine wpOrd_read rfl rfl (by decide) ?_; apply Exists.intro; refine ⟨fun wq hq => ?_, ?_⟩; (go_simp <;> rfl); simp only [Act.put, List.setIfInBounds_toArray, List.set_cons_succ, List.set_cons_zero]))
    have hX : ∀ k, k < w9.heap.size → (w9.alloc (.cells #[.int .i64 nv, .int .i64 0, .int .i64 a6, .int .i64 st.next, .int .u8 a5, .int .u32 wv] 59)).drew.heap[k]? = w9.heap[k]? := fun k hk => Below.heap_alloc _ _ _ hk
    have HX := Lib.hid hX
    clear hX
    have hs9 : w.heap.size + 3 ≤ w9.heap.size := by omega
    have S9 : ∀ wz : World, (∀ k, k < w9.heap.size → (Value.slice sa9 (ones st.l).length cap9).ownBlock ≠ some k → wz.heap[k]? = w9.heap[k]?) → (wz.cell? ⟨mp, 0, none⟩ = some (.slice sa9 (ones st.l).length cap9) ∧ wz.cell? ⟨mp, 1, none⟩ = some (.int .i64 st.next)) ∧ wz.cell? ⟨w.heap.size, 6, none⟩ = some (.int .i64 a6) ∧ wz.cell? ⟨w.heap.size, 5, none⟩ = some (.int .u8 a5) ∧ wz.cell? ⟨w.heap.size + 2, 0, none⟩ = some (.int .u32 wv) := fun wz hz => by
      have hown := fun q hq => HM9.out.2.lt q hq
      have hmz := (hz mp (by omega) (fun e => by have := (hown _ e).1; omega)).trans HM9.out.1
      have hac := (hz _ (by omega) (fun e => HNO.out _ (Nat.le_refl _) (by omega) e)).trans H9.out.1.1.1
      have hwc := (hz _ (by omega) (fun e => HNO.out _ (by omega) (by omega) e)).trans H9.out.1.2.1
      have h7 := seven_cells hac
      refine ⟨⟨?_, ?_⟩, h7.2.2.2.2.2.2, h7.2.2.2.2.2.1, cell1 hwc⟩ <;> (rw [cell_of_row wz mp _ _ _ _ hmz]; rfl)
    have HS9 := Lib.hid S9
    clear S9
    refine wpOrd_act rfl (by decide) (fun K hK => ?_)
    go_wp2_with fail
    refine hK _ _ ?_ (fun hS => ?_)
    all_goals (clear hK K)
    · exact HS9.out _ (fun k hk _ => HX.out k hk)
    refine wpOrd_act rfl (by decide) (fun K hK => ?_)
    go_wp2_with (at_builtin; go_must (refine wpList_append2 _ rfl (.tmp 90) (.tmp 102) 54 rfl base 59 i0 (.agg #[.int .i64 0, .int .i64 0, .int .i64 0, .int .i64 0, .int .u8 0, .int .u32 0]) 6 40 Try.underlying54 HIN.out.1 HIN.out.2.1 HIN.out.2.2.1 HIN.out.2.2.2 rfl (by decide) (.slice sa9 (ones st.l).length cap9) (ones st.l).length (oneCells (ones st.l)) rfl (by exact HM9.out.2.alloc _) _ 1 [.int .i64 nv, .int .i64 0, .int .i64 a6, .int .i64 st.next, .int .u8 a5, .int .u32 wv] rfl (by exact Rd.new w9 6 [.int .i64 nv, .int .i64 0, .int .i64 a6, .int .i64 st.next, .int .u8 a5, .int .u32 wv] 59 1 1 rfl (Nat.le_refl _)) (by simp [Value.oneCell']) (by unfold maxLen; omega) (by omega) (by simp; omega) ?_); intro a' c' w10 ho10 hg10 hb10; have H10 := Lib.hid (And.intro ho10 (And.intro hg10 hb10)); clear ho10 hg10 hb10)
    refine hK _ _ ?_ (fun hS => ?_)
    all_goals (clear hK K)
    · exact HS9.out _ (fun k hk hne => (H10.out.2.1.block k (by simp; omega) (fun e => hne e.symm)).trans (HX.out k hk))
    simp only [Act.put, List.setIfInBounds_toArray, List.set_cons_succ, List.set_cons_zero]
    have hma := mo_append (x := ⟨nv, 0, a6, st.next, a5, wv⟩) hlt (by simp; omega) ((HX.out mp (by omega)).trans HM9.out.1) (HM9.out.2.alloc _) H10.out.1 H10.out.2.1
    have hfm := fun j => frozen_of_row w10 mp j _ _ hma.2.2
    have q0 : w10.cell? ⟨mp, 0, none⟩ = some (.slice sa9 (ones st.l).length cap9) := by rw [cell_of_row w10 mp _ _ _ _ hma.2.2]; rfl
    have q1 : w10.cell? ⟨mp, 1, none⟩ = some (.int .i64 st.next) := by rw [cell_of_row w10 mp _ _ _ _ hma.2.2]; rfl
    have hz10 : mp < w10.heap.size := lt_of_block hma.2.2
    have HMA := Lib.hid hma
    clear hma
    repeat (first | (refine wpOrd_skip rfl rfl ?_; simp only [Act.put, List.setIfInBounds_toArray, List.set_cons_succ, List.set_cons_zero]) | (refine wpOrd_pure rfl rfl ?_; apply Exists.intro; refine ⟨fun wq => ?_, ?_⟩; (go_simp <;> rfl); simp only [Act.put, List.setIfInBounds_toArray, List.set_cons_succ, List.set_cons_zero]) | (refine wpOrd_read rfl rfl (by decide) ?_; apply Exists.intro; refine ⟨fun wq hq => ?_, ?_⟩; (go_simp <;> rfl); simp only [Act.put, List.setIfInBounds_toArray, List.set_cons_succ, List.set_cons_zero]))
    refine wpOrd_last rfl (by decide) (fun K hK => ?_)
    go_wp2_with fail
    refine wpOrd_nil ?_
    go_wp2
    go_ret
    obtain ⟨hmf, hsf, -⟩ := HMA.out
    refine ⟨rfl, _, HI'.out, ?_, ?_, ?_, ?_⟩
    · refine H9.out.2.1.same ?_ ?_
      · exact (hsf.block p (by simp; omega) (fun h => by rcases h with h | h <;> omega)).trans (HX.out p (by omega))
      · exact (hsf.block mb (by simp; omega) (fun h => by rcases h with h | h <;> omega)).trans (HX.out mb (by omega))
    · have he : ones (st.root ⟨⟨0, nv⟩, a6, a5, wv, ⟨0, 3⟩, 99⟩).l = ones st.l ++ [⟨nv, 0, a6, st.next, a5, wv⟩] := by simp [ones, FS.root, One.of]
      rw [he]
      exact hmf
    · intro hB
      have h1 : Below B0 w w8 := (HSE.out.bl.mono hB).trans (B8.out.mono (by omega))
      have h2 : Below B0 w8 w9 := H9.out.2.2.to_below B0 (by omega) (fun k hk => by rcases hk with rfl | rfl <;> assumption)
      have h3 := hsf.to_below B0 (by simp; omega) (fun k hk => by rcases hk with rfl | hk <;> omega)
      exact (h1.trans h2).trans ((((Below.refl B0 w9).alloc (by omega) _).drew).trans h3)
    · intro A hA hAp hAm hAmp hAo
      have hAo' : (Value.slice sa9 (ones st.l).length cap9).ownBlock ≠ some A := fun e => hAo _ _ _ _ HM.out.1 (by rw [← HSA.out]; exact (ownBlock_len _ _ _ _ _).trans e)
      exact (keep_append H10.out.2.1 A (by simp; omega) hAmp hAo').trans ((HX.out A (by omega)).trans ((H9.out.2.2.block A (by omega) (fun h => by rcases h with h | h <;> omega)).trans ((B8.out.block A (by omega)).trans (HSE.out.bl.block A hA))))
end
end Go.Proofs.Ytoeeobebkalglaa
