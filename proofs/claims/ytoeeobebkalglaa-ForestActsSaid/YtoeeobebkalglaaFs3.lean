/- A walk of the law's step, a call of kind 3. -/
import Derived.Test.YtoeeobebkalglaaFs0
import Derived.Test.YtoeeobebkalglaaOrt
import Derived.Test.YtoeeobebkalglaaApq
import Derived.Test.YtoeeobebkalglaaFly
import Derived.Test.YtoeeobebkalglaaOpn
import Derived.Test.YtoeeobebkalglaaFrw
import Derived.IntWalk
import Derived.Deep.DeepCutAuto
namespace Go.Proofs.Ytoeeobebkalglaa
open Go.RowKit Go.Ease

section
set_option maxHeartbeats 4000000
set_option maxRecDepth 100000 in
theorem step_3 {k0 : Nat} {st : FS} (hI : MInv k0 st) (hk0 : k0 ≤ 100) {w : World} {B0 p mb mp base : Nat} (hall : Fo w p mb st ∧ Mo w mp base (ones st.l) st.next ∧ (p < base ∧ mb < base ∧ p ≠ mp ∧ mb ≠ mp) ∧ B0 ≤ p ∧ B0 ≤ mb ∧ B0 ≤ mp) (a : Actv) (ha : a.ok) (hkind : a.kind % 5 = 3) :
    Calls Try.prog 23 (#[.pointer (some ⟨p, 0, none⟩), .pointer (some ⟨mp, 0, none⟩), .agg a.cells.toArray]) w fun e w' => e = .returned (.bool true) ∧ StepTo B0 w k0 p mb mp base w' := by
  obtain ⟨hf, hm, hp, hB1, hB2, hB3⟩ := hall
  obtain ⟨a0, a1, a2, a3, a4, a5, a6⟩ := a
  obtain ⟨⟨x1, x2⟩, x3, x4, x5, x6, x7⟩ := ha
  simp only at x1 x2 x3 x4 x5 x6 x7 hkind
  have hu1 : 0 ≤ IntKind.u64.wrap a1 := by simp only [IntKind.wrap, IntKind.bits, IntKind.signed]; simp; omega
  have hu2 : 0 ≤ IntKind.u64.wrap a2 := by simp only [IntKind.wrap, IntKind.bits, IntKind.signed]; simp; omega
  obtain ⟨hv, hhv⟩ : ∃ h : Int, h = IntKind.u64.wrap a1 % 12 := ⟨_, rfl⟩
  obtain ⟨nv, hnv⟩ : ∃ h : Int, h = IntKind.u64.wrap a2 % 12 := ⟨_, rfl⟩
  have hh0 : 0 ≤ hv ∧ hv ≤ 11 := by omega
  have hn0 : 0 ≤ nv ∧ nv ≤ 11 := by omega
  have e1 : IntKind.i64.wrap ((IntKind.u64.wrap a1).tmod 12) = hv := by rw [Int.tmod_eq_emod_of_nonneg hu1, ← hhv, IntWalk.i64_in _ (by omega)]
  have e2 : IntKind.i64.wrap ((IntKind.u64.wrap a2).tmod 12) = nv := by rw [Int.tmod_eq_emod_of_nonneg hu2, ← hnv, IntWalk.i64_in _ (by omega)]
  obtain ⟨wv, hwv⟩ : ∃ h : Int, h = a3 % 4 := ⟨_, rfl⟩
  obtain ⟨tv, htv⟩ : ∃ h : Int, h = a4 % 4 := ⟨_, rfl⟩
  have hw0 : 0 ≤ wv ∧ wv ≤ 3 := by omega
  have ht0 : 0 ≤ tv ∧ tv ≤ 3 := by omega
  have e3 : a3.tmod 4 = wv := by rw [Int.tmod_eq_emod_of_nonneg x5.1, ← hwv]
  have e4 : a4.tmod 4 = tv := by rw [Int.tmod_eq_emod_of_nonneg x6.1, ← htv]
  have e3' : a3 % 4 = wv := hwv.symm
  have e4' : a4 % 4 = tv := htv.symm
  obtain ⟨hlt, hle, sa, cap, hmb, hmo⟩ := hm
  rw [ones_len] at hmb hmo
  have hrd := Rd.of_owns hmo
  have hsl := hI.ln
  have HF := Lib.hid hf
  have HM := Lib.hid (And.intro hmb (And.intro hmo hrd))
  have HI := Lib.hid hI
  have HP := Lib.hid hp
  have hpl := hf.lt
  have hmbl := hf.mp.lt
  have HE := Lib.hid (And.intro e1 (And.intro e2 (And.intro e3 (And.intro e4 (And.intro e3' e4')))))
  have hfd := fun (wx : World) (hb : Below w.heap.size w wx) (n' : Int) => find1_any (l := ones st.l) (cap := cap) (sa := sa) (mp := mp) (by rw [ones_len, World.cell?_of_block (w := w) (a := ⟨mp, 0, none⟩) (hb.block mp (by omega)), cell_of_row w mp _ _ _ _ hmb]; rfl) (Nat.lt_of_lt_of_le (by omega) hb.size) (by rw [ones_len]; exact hrd.same hb.size (fun g hg => hb.block g (hrd.lt hg))) (by rw [ones_len]; omega) n'
  have HFD := Lib.hid hfd
  clear hu1 hu2 hhv hnv hwv htv e1 e2 e3 e4 e3' e4' hf hmb hmo hrd hI hp hfd
  show Calls Try.prog 23 #[.pointer (some ⟨p, 0, none⟩), .pointer (some ⟨mp, 0, none⟩), .agg #[.int .u8 a0, .int .i64 a1, .int .i64 a2, .int .u32 a3, .int .u32 a4, .int .u8 a5, .int .i64 a6]] w _
  go_enter Try.func23, Try.ntmps23
  go_upto_region 1 with (fail)
  -- THE ACT, h, n
  have hA0 := heap_alloc_new w (.cells #[.int .u8 a0, .int .i64 a1, .int .i64 a2, .int .u32 a3, .int .u32 a4, .int .u8 a5, .int .i64 a6] 37)
  have hb0 : Below w.heap.size w (w.alloc (.cells #[.int .u8 a0, .int .i64 a1, .int .i64 a2, .int .u32 a3, .int .u32 a4, .int .u8 a5, .int .i64 a6] 37)) := (Below.refl _ _).alloc (Nat.le_refl _) _
  have hz0 : (w.alloc (.cells #[.int .u8 a0, .int .i64 a1, .int .i64 a2, .int .u32 a3, .int .u32 a4, .int .u8 a5, .int .i64 a6] 37)).heap.size = w.heap.size + 1 := by simp
  generalize (w.alloc (.cells #[.int .u8 a0, .int .i64 a1, .int .i64 a2, .int .u32 a3, .int .u32 a4, .int .u8 a5, .int .i64 a6] 37)) = w0 at *
  obtain ⟨e1, e2, -⟩ := HE.out
  refine wp_region_ord (fun w' => w'.cell? ⟨w.heap.size, 1, none⟩ = some (.int .i64 a1) ∧ w'.cell? ⟨w.heap.size, 2, none⟩ = some (.int .i64 a2)) 12 [(0,0),(1,0),(2,0),(3,0),(4,0),(5,0),(6,0),(7,0),(8,0),(9,0),(10,1),(11,1),(12,0)] (by as_aux_lemma => kernel_rfl) (by as_aux_lemma => kernel_rfl) (fun c a d v w h => by cases d <;> exact h) (act12 hA0) ?_
  have HA0 := Lib.hid (And.intro hA0 (And.intro hb0 hz0))
  clear hA0 hb0 hz0
  repeat (first | (refine wpOrd_skip rfl rfl ?_; simp only [Act.put, List.setIfInBounds_toArray, List.set_cons_succ, List.set_cons_zero]) | (refine wpOrd_pure rfl rfl ?_; apply Exists.intro; refine ⟨fun wq => ?_, ?_⟩; (go_simp <;> rfl); simp only [Act.put, List.setIfInBounds_toArray, List.set_cons_succ, List.set_cons_zero]) | (refine wpOrd_read rfl rfl (by decide) ?_; apply Exists.intro; refine ⟨fun wq hq => ?_, ?_⟩; (go_simp <;> rfl); simp only [Act.put, List.setIfInBounds_toArray, List.set_cons_succ, List.set_cons_zero]))
  refine wpOrd_act rfl (by decide) (fun K hK => ?_)
  go_wp2_with fail
  refine hK _ _ ?_ (fun hS => ?_)
  all_goals (clear hK K)
  · exact act12 ((Below.heap_alloc _ _ _ (by have := HA0.out.2.2; simp; omega)).trans HA0.out.1)
  refine wpOrd_act rfl (by decide) (fun K hK => ?_)
  go_wp2_with fail
  refine hK _ _ ?_ (fun hS => ?_)
  all_goals (clear hK K)
  · exact act12 ((Below.heap_alloc _ _ _ (by have := HA0.out.2.2; simp; omega)).trans HA0.out.1)
  repeat (first | (refine wpOrd_skip rfl rfl ?_; simp only [Act.put, List.setIfInBounds_toArray, List.set_cons_succ, List.set_cons_zero]) | (refine wpOrd_pure rfl rfl ?_; apply Exists.intro; refine ⟨fun wq => ?_, ?_⟩; (go_simp <;> rfl); simp only [Act.put, List.setIfInBounds_toArray, List.set_cons_succ, List.set_cons_zero]) | (refine wpOrd_read rfl rfl (by decide) ?_; apply Exists.intro; refine ⟨fun wq hq => ?_, ?_⟩; (go_simp <;> rfl); simp only [Act.put, List.setIfInBounds_toArray, List.set_cons_succ, List.set_cons_zero]))
  refine wpOrd_nil ?_
  have hA1 : (w0.alloc (.cells #[.int .i64 hv] 3)).drew.heap[w.heap.size]? = some (.cells #[.int .u8 a0, .int .i64 a1, .int .i64 a2, .int .u32 a3, .int .u32 a4, .int .u8 a5, .int .i64 a6] 37 (0, 0)) := (Below.heap_alloc _ _ _ (by have := HA0.out.2.2; omega)).trans HA0.out.1
  have hB1' : (w0.alloc (.cells #[.int .i64 hv] 3)).drew.heap[w.heap.size + 1]? = some (.cells #[.int .i64 hv] 3 (0, 0)) := by
    have := heap_alloc_new w0 (.cells #[.int .i64 hv] 3)
    rw [HA0.out.2.2] at this
    exact this
  have hb1 : Below w.heap.size w (w0.alloc (.cells #[.int .i64 hv] 3)).drew := (HA0.out.2.1.alloc (by have := HA0.out.2.2; omega) _).drew
  have hz1 : (w0.alloc (.cells #[.int .i64 hv] 3)).drew.heap.size = w.heap.size + 2 := by have := HA0.out.2.2; simp; omega
  have hzz : w0.heap.size = w.heap.size + 1 := HA0.out.2.2
  rw [hzz]
  clear e1 e2 hzz
  generalize (w0.alloc (.cells #[.int .i64 hv] 3)).drew = w1 at *
  have H1 := Lib.hid (And.intro hA1 (And.intro hB1' (And.intro hb1 hz1)))
  clear hA1 hB1' hb1 hz1
  go_upto_region 2 with (fail)
  obtain ⟨-, -, e3, e4, e3', e4'⟩ := HE.out
  refine wp_region_ord (fun w' => w'.cell? ⟨w.heap.size, 3, none⟩ = some (.int .u32 a3) ∧ w'.cell? ⟨w.heap.size, 4, none⟩ = some (.int .u32 a4)) 8 [(0,0),(1,0),(2,0),(3,0),(4,0),(5,0),(6,1),(7,1),(8,0)] (by as_aux_lemma => kernel_rfl) (by as_aux_lemma => kernel_rfl) (fun c a d v w h => by cases d <;> exact h) ⟨(seven_cells H1.out.1).2.2.2.1, (seven_cells H1.out.1).2.2.2.2.1⟩ ?_
  repeat (first | (refine wpOrd_skip rfl rfl ?_; simp only [Act.put, List.setIfInBounds_toArray, List.set_cons_succ, List.set_cons_zero]) | (refine wpOrd_pure rfl rfl ?_; apply Exists.intro; refine ⟨fun wq => ?_, ?_⟩; (go_simp <;> rfl); simp only [Act.put, List.setIfInBounds_toArray, List.set_cons_succ, List.set_cons_zero]) | (refine wpOrd_read rfl rfl (by decide) ?_; apply Exists.intro; refine ⟨fun wq hq => ?_, ?_⟩; (go_simp <;> rfl); simp only [Act.put, List.setIfInBounds_toArray, List.set_cons_succ, List.set_cons_zero]))
  refine wpOrd_act rfl (by decide) (fun K hK => ?_)
  go_wp2_with fail
  refine hK _ _ ?_ (fun hS => ?_)
  all_goals (clear hK K)
  · have := seven_cells ((Below.heap_alloc w1 (.cells #[.int .u32 0] 33) w.heap.size (by have := H1.out.2.2.2; omega)).trans H1.out.1)
    exact ⟨this.2.2.2.1, this.2.2.2.2.1⟩
  refine wpOrd_act rfl (by decide) (fun K hK => ?_)
  go_wp2_with fail
  refine hK _ _ ?_ (fun hS => ?_)
  all_goals (clear hK K)
  · have := seven_cells ((Below.heap_alloc w1 (.cells #[.int .u32 wv] 33) w.heap.size (by have := H1.out.2.2.2; omega)).trans H1.out.1)
    exact ⟨this.2.2.2.1, this.2.2.2.2.1⟩
  repeat (first | (refine wpOrd_skip rfl rfl ?_; simp only [Act.put, List.setIfInBounds_toArray, List.set_cons_succ, List.set_cons_zero]) | (refine wpOrd_pure rfl rfl ?_; apply Exists.intro; refine ⟨fun wq => ?_, ?_⟩; (go_simp <;> rfl); simp only [Act.put, List.setIfInBounds_toArray, List.set_cons_succ, List.set_cons_zero]) | (refine wpOrd_read rfl rfl (by decide) ?_; apply Exists.intro; refine ⟨fun wq hq => ?_, ?_⟩; (go_simp <;> rfl); simp only [Act.put, List.setIfInBounds_toArray, List.set_cons_succ, List.set_cons_zero]))
  refine wpOrd_nil ?_
  have hA2 : (w1.alloc (.cells #[.int .u32 wv] 33)).drew.heap[w.heap.size]? = some (.cells #[.int .u8 a0, .int .i64 a1, .int .i64 a2, .int .u32 a3, .int .u32 a4, .int .u8 a5, .int .i64 a6] 37 (0, 0)) := (Below.heap_alloc _ _ _ (by have := H1.out.2.2.2; omega)).trans H1.out.1
  have hB2' : (w1.alloc (.cells #[.int .u32 wv] 33)).drew.heap[w.heap.size + 1]? = some (.cells #[.int .i64 hv] 3 (0, 0)) := (Below.heap_alloc _ _ _ (by have := H1.out.2.2.2; omega)).trans H1.out.2.1
  have hC2 : (w1.alloc (.cells #[.int .u32 wv] 33)).drew.heap[w.heap.size + 2]? = some (.cells #[.int .u32 wv] 33 (0, 0)) := by
    have := heap_alloc_new w1 (.cells #[.int .u32 wv] 33)
    rw [H1.out.2.2.2] at this
    exact this
  have hb2 : Below w.heap.size w (w1.alloc (.cells #[.int .u32 wv] 33)).drew := (H1.out.2.2.1.alloc (by have := H1.out.2.2.2; omega) _).drew
  have hz2 : (w1.alloc (.cells #[.int .u32 wv] 33)).drew.heap.size = w.heap.size + 3 := by have := H1.out.2.2.2; simp; omega
  have hzz : w1.heap.size = w.heap.size + 2 := H1.out.2.2.2
  rw [hzz]
  clear e3 e4 e3' e4' hzz
  generalize (w1.alloc (.cells #[.int .u32 wv] 33)).drew = w2 at *
  have hq1 := cell1 hB2'
  have hqz : w.heap.size + 3 ≤ w2.heap.size := by omega
  have H2 := Lib.hid (And.intro hA2 (And.intro hB2' (And.intro hC2 (And.intro hb2 hz2))))
  clear hA2 hB2' hC2 hb2 hz2
  have hf3 := HFD.out w2 H2.out.2.2.2.1 hv
  have hat := atN_cases HI.out hv
  have HAT := Lib.hid hat
  obtain ⟨kv, hkv⟩ : ∃ k, k = placeOf (fun x : One => x.n == hv) (ones st.l) := ⟨_, rfl⟩
  rw [← hkv] at hf3
  have HKV := Lib.hid hkv
  have HF3 := Lib.hid hf3
  clear hf3 hkv hat
  go_upto_region 4 with (go_at_call 36; go_must (refine (HF3.out).mono ?_); rintro ex w3 ⟨rfl, hbf⟩; have H3 := Lib.hid hbf; clear hbf)
  have hse : SEnv w (w3.alloc (.cells #[.int .i64 kv] 3)) a0 a1 a2 a3 a4 a5 a6 hv wv kv w3.heap.size := by
    have h3 := H3.out
    have hz3 := h3.size
    refine ⟨?_, ?_, ?_, ⟨by omega, by simp⟩, heap_alloc_new _ _, (H2.out.2.2.2.1.trans (h3.mono H2.out.2.2.2.1.size)).alloc (by omega) _⟩
    · exact (Below.heap_alloc _ _ _ (by omega)).trans ((h3.block _ (by omega)).trans H2.out.1)
    · exact (Below.heap_alloc _ _ _ (by omega)).trans ((h3.block _ (by omega)).trans H2.out.2.1)
    · exact (Below.heap_alloc _ _ _ (by omega)).trans ((h3.block _ (by omega)).trans H2.out.2.2.1)
  generalize w3.heap.size = kb at *
  generalize (w3.alloc (.cells #[.int .i64 kv] 3)) = w4 at *
  have HSE := Lib.hid hse
  clear hse hq1 hqz
  go_cut [12] from 39 to 52 (fun s12 wx => s12 = .bool (mineB st hv wv) ∧ SEnv w wx a0 a1 a2 a3 a4 a5 a6 hv wv kv kb)
  case first =>
    have hsq := HSE.out
    have hat := HAT.out
    have hkv := HKV.out
    obtain ⟨hmb, hmo, hrd⟩ := HM.out
    have hm4 : w4.cell? ⟨mp, 0, none⟩ = some (.slice sa st.l.length cap) := by rw [World.cell?_of_block (w := w) (a := ⟨mp, 0, none⟩) (hsq.bl.block mp (by omega)), cell_of_row w mp _ _ _ _ hmb]; rfl
    have hc1 := cell1 hsq.kc
    have hc2 := cell1 hsq.wb
    rcases hat with ⟨i, e, ha, hi, hfe, hh, hee⟩ | ⟨ha, hfe⟩
    · have hki : kv = i := by rw [hkv]; exact ha
      subst hki
      have hil : i < st.l.length := (List.getElem?_eq_some_iff.1 hi).1
      rcases hrd.2 with ⟨_, hz⟩ | ⟨g0, off, cap', he, _, hgl, hcc⟩
      · omega
      cases he
      have h6 := (one_cells hcc (by rw [ones_get, hi]; rfl : (ones st.l)[i]? = some (One.of e))).2.2.2.2.2
      have hm6 : w4.cell? ⟨g0, off + i * 6 + 5, none⟩ = some (.int .u32 e.own) := by rw [World.cell?_of_block (w := w) (a := ⟨g0, off + i * 6 + 5, none⟩) (hsq.bl.block g0 hgl)]; exact h6
      have hmine : mineB st hv wv = (e.own == wv) := by simp only [mineB, hfe]
      have HMN := Lib.hid hmine
      have hil0 : (0 : Int) ≤ (i : Int) := by omega
      have hdi : decide ((0 : Int) ≤ (i : Int)) = true := by simp
      clear hsq hkv hmb hmo hrd hcc h6 hi hfe hh hee ha hmine
      refine wp_region_ord (fun w' => w'.cell? ⟨kb, 0, none⟩ = some (.int .i64 i) ∧ w'.cell? ⟨w.heap.size + 2, 0, none⟩ = some (.int .u32 wv) ∧ w'.cell? ⟨mp, 0, none⟩ = some (.slice (some ⟨g0, off, none⟩) st.l.length cap) ∧ w'.cell? ⟨g0, off + i * 6 + 5, none⟩ = some (.int .u32 e.own)) 15 [(0,0),(1,0),(2,0),(3,0),(4,0),(5,0),(6,0),(7,0),(8,0),(9,0),(10,0),(11,0),(12,0),(13,0),(14,0)] (by as_aux_lemma => kernel_rfl) (by as_aux_lemma => kernel_rfl) (fun c a d v w h => by cases d <;> exact h) ⟨hc1, hc2, hm4, hm6⟩ ?_
      repeat (first | (refine wpOrd_skip rfl rfl ?_; simp only [Act.put, List.setIfInBounds_toArray, List.set_cons_succ, List.set_cons_zero]) | (refine wpOrd_pure rfl rfl ?_; apply Exists.intro; refine ⟨fun wq => ?_, ?_⟩; (go_simp <;> rfl); simp only [Act.put, List.setIfInBounds_toArray, List.set_cons_succ, List.set_cons_zero]) | (refine wpOrd_read rfl rfl (by decide) ?_; apply Exists.intro; refine ⟨fun wq hq => ?_, ?_⟩; (go_simp <;> rfl); simp only [Act.put, List.setIfInBounds_toArray, List.set_cons_succ, List.set_cons_zero]))
      refine wpOrd_nil ?_
      go_wp2_with fail
      go_meet
      exact ⟨by rw [HMN.out], HSE.out.same (Below.refl _ _).drew⟩
    · have hki : kv = -1 := by rw [hkv]; exact ha
      subst hki
      have hmine : mineB st hv wv = false := by simp only [mineB, hfe]
      have HMN := Lib.hid hmine
      clear hsq hkv hmb hmo hrd hfe ha hmine
      refine wp_region_ord (fun w' => w'.cell? ⟨kb, 0, none⟩ = some (.int .i64 (-1))) 15 [(0,0),(1,0),(2,0),(3,0),(4,0),(5,0),(6,0),(7,0),(8,0),(9,0),(10,0),(11,0),(12,0),(13,0),(14,0)] (by as_aux_lemma => kernel_rfl) (by as_aux_lemma => kernel_rfl) (fun c a d v w h => by cases d <;> exact h) hc1 ?_
      repeat (first | (refine wpOrd_skip rfl rfl ?_; simp only [Act.put, List.setIfInBounds_toArray, List.set_cons_succ, List.set_cons_zero]) | (refine wpOrd_pure rfl rfl ?_; apply Exists.intro; refine ⟨fun wq => ?_, ?_⟩; (go_simp <;> rfl); simp only [Act.put, List.setIfInBounds_toArray, List.set_cons_succ, List.set_cons_zero]) | (refine wpOrd_read rfl rfl (by decide) ?_; apply Exists.intro; refine ⟨fun wq hq => ?_, ?_⟩; (go_simp <;> rfl); simp only [Act.put, List.setIfInBounds_toArray, List.set_cons_succ, List.set_cons_zero]))
      refine wpOrd_nil ?_
      go_wp2_with fail
      go_meet
      exact ⟨by rw [HMN.out], HSE.out.same (Below.refl _ _).drew⟩
  case rest =>
  obtain ⟨rfl, hse5⟩ := hcut
  have HSE5 := Lib.hid hse5
  clear hse5 HSE
  go_upto_region 5 with (fail)
  go_cut [13] from 53 to 60 (fun s13 wx => s13 = .bool (freeB st nv) ∧ SEnv w wx a0 a1 a2 a3 a4 a5 a6 hv wv kv kb)
  case first =>
    by_cases hn1 : nv = 0
    · have hfr : freeB st nv = false := by simp [freeB, hn1]
      have HFR := Lib.hid hfr
      clear hfr
      have hn2 : (nv != 0) = false := by simpa using hn1
      clear hn1
      go_wp2_with fail
      go_meet
      exact ⟨by rw [HFR.out], HSE5.out⟩
    · have hn2 : (nv != 0) = true := by simpa using hn1
      have hf5 := HFD.out wc HSE5.out.bl nv
      rcases atN_cases HI.out nv with ⟨i, e, ha, -, hfe, -, -⟩ | ⟨ha, hfe⟩
      · have hfr : freeB st nv = false := by simp [freeB, hfe]
        unfold atN at ha
        rw [ha] at hf5
        have HF5 := Lib.hid hf5
        have HFR := Lib.hid hfr
        have hdi : decide ((i : Int) < 0) = false := by simp
        clear hf5 ha hfe hn1 hfr
        go_wp2_with (go_at_call 36; go_must (refine (HF5.out).mono ?_); rintro ex w5 ⟨rfl, hbf⟩; have H5 := Lib.hid hbf; clear hbf)
        go_meet
        exact ⟨by rw [HFR.out], HSE5.out.same H5.out⟩
      · have hfr : freeB st nv = true := by simp [freeB, hfe, hn1]
        unfold atN at ha
        rw [ha] at hf5
        have HF5 := Lib.hid hf5
        have HFR := Lib.hid hfr
        clear hf5 ha hfe hn1 hfr
        go_wp2_with (go_at_call 36; go_must (refine (HF5.out).mono ?_); rintro ex w5 ⟨rfl, hbf⟩; have H5 := Lib.hid hbf; clear hbf)
        go_meet
        exact ⟨by rw [HFR.out], HSE5.out.same H5.out⟩
  case rest =>
  obtain ⟨rfl, hse5⟩ := hcut
  have hf5 : Fo wc p mb st := HF.out.below hse5.bl
  have hm5 : Mo wc mp base (ones st.l) st.next := Mo.below ⟨hlt, hle, sa, cap, by rw [ones_len]; exact HM.out.1, by rw [ones_len]; exact HM.out.2.1⟩ hse5.bl
  have q5 := seven_cells hse5.act
  have qw := cell1 hse5.wb
  have hwz := hse5.bl.size
  have hkr := hse5.kr
  have HSE := Lib.hid hse5
  have HFM := Lib.hid (And.intro hf5 hm5)
  clear hse5 HSE5 hf5 hm5 HE HFD HA0 H1 H2 H3 HF3
  obtain ⟨q0, q1, q2, q3, q4, q5', q6⟩ := q5
  clear q1 q2 q3 q4 q5' q6
  obtain ⟨fr, hfr⟩ : ∃ b, b = freeB st nv := ⟨_, rfl⟩
  rw [← hfr]
  obtain ⟨mi, hmi⟩ : ∃ b, b = mineB st hv wv := ⟨_, rfl⟩
  rw [← hmi]
  clear hfr hmi
  have hpB : ∀ k, FS.F p mb k → k < w.heap.size := fun k hk => by rcases hk with rfl | rfl <;> omega
  have HPB := Lib.hid hpB
  clear hpB
  have hm0 : wc.heap[mp]? = some (.cells #[.slice sa st.l.length cap, .int .i64 st.next] 56 (0, 0)) := (HSE.out.bl.block mp (by omega)).trans HM.out.1
  have qm0 : wc.cell? ⟨mp, 0, none⟩ = some (.slice sa st.l.length cap) := by rw [cell_of_row wc mp _ _ _ _ hm0]; rfl
  have hrdc : Rd wc 6 (.slice sa st.l.length cap) st.l.length (oneCells (ones st.l)) := HM.out.2.2.same hwz (fun g hg => HSE.out.bl.block g (HM.out.2.2.lt hg))
  have hcl := cloneOne_any hrdc (oneCells_one _) (by omega)
  have HCL := Lib.hid hcl
  clear hm0 hrdc hcl
  have hk5 : (a0 % 5 == 0) = false := by rw [hkind]; rfl
  have hk6 : (a0 % 5 == 1) = false := by rw [hkind]; rfl
  have hk7 : (a0 % 5 == 2) = false := by rw [hkind]; rfl
  have hk8 : (a0 % 5 == 3) = true := by rw [hkind]; rfl
  have eg41 : ∀ args w, (callFunc 41 args).run Try.prog w = .ok (.enter 41 args) w := enters_of Try.func41 (by kernel_rfl) rfl
  have hR := fun (wx : World) (hx : Fo wx p mb st) => leave_own hx HI.out.ok wv
  obtain ⟨hg1, hg2⟩ := dead_ones HI.out wv
  have HG := Lib.hid (And.intro hg1 hg2)
  have HR := Lib.hid hR
  have HEG := Lib.hid eg41
  clear hR hg1 hg2 eg41
  obtain ⟨p1, p2, p3, p4⟩ := HP.out
  go_upto_region 32 with (go_at_call 37; go_must (refine HCL.out.mono ?_); rintro ex w6 ⟨ca, cc, rfl, ho6, hb6⟩; have H6 := Lib.hid (And.intro ho6 hb6); clear ho6 hb6)
  have hse7 : SEnv w (w6.alloc (.cells #[.slice ca st.l.length cc, .int .i64 0] 56)) a0 a1 a2 a3 a4 a5 a6 hv wv kv kb := HSE.out.same (H6.out.2.alloc H6.out.2.size _)
  have hfo7 : Fo (w6.alloc (.cells #[.slice ca st.l.length cc, .int .i64 0] 56)) p mb st := HFM.out.1.below (H6.out.2.alloc H6.out.2.size _)
  have hmo7 : Mo (w6.alloc (.cells #[.slice ca st.l.length cc, .int .i64 0] 56)) mp base (ones st.l) st.next := HFM.out.2.below (H6.out.2.alloc H6.out.2.size _)
  have hob7 : (w6.alloc (.cells #[.slice ca st.l.length cc, .int .i64 0] 56)).heap[w6.heap.size]? = some (.cells #[.slice ca st.l.length cc, .int .i64 0] 56 (0, 0)) := heap_alloc_new _ _
  have hor7 : (w6.alloc (.cells #[.slice ca st.l.length cc, .int .i64 0] 56)).ownsRow wc.heap.size 59 6 (.slice ca st.l.length cc) st.l.length (oneCells (ones st.l)) := H6.out.1.alloc _
  have hz6 := H6.out.2.size
  have hz7 : (w6.alloc (.cells #[.slice ca st.l.length cc, .int .i64 0] 56)).heap.size = w6.heap.size + 1 := by simp
  have qw' := cell1 hse7.wb
  have hwl : w.heap.size + 2 < (w6.alloc (.cells #[.slice ca st.l.length cc, .int .i64 0] 56)).heap.size := lt_of_block hse7.wb
  generalize (w6.alloc (.cells #[.slice ca st.l.length cc, .int .i64 0] 56)) = w7 at *
  have H7 := Lib.hid (And.intro hse7 (And.intro hfo7 (And.intro hmo7 (And.intro hob7 hor7))))
  have hhl : w.heap.size + 1 < w7.heap.size := lt_of_block hse7.hb
  clear hse7 hfo7 hmo7 hob7 hor7 qm0 q0 qw
  go_wp2_with (go_at_call 21; go_must (refine (HR.out _ H7.out.2.1).mono ?_); rintro ex w9 ⟨ga, gc, rfl, hs9, hf9, hr9, hg9⟩; have H9 := Lib.hid (And.intro hs9 (And.intro hf9 (And.intro hr9 hg9))); clear hs9 hf9 hr9 hg9)
  have hz9 := H9.out.1.size
  have hkeep : ∀ k, w.heap.size ≤ k → k < w7.heap.size → w9.heap[k]? = w7.heap[k]? := fun k h1 h2 => H9.out.1.block k h2 (fun h => by have := HPB.out k h; omega)
  have hmo9 : Mo w9 mp base (ones st.l) st.next := H7.out.2.2.1.stp H9.out.1 HP.out
  have hhb9 := cell1 ((hkeep _ (by omega) hhl).trans H7.out.1.hb)
  have hwb9 := cell1 ((hkeep _ (by omega) (lt_of_block H7.out.1.wb)).trans H7.out.1.wb)
  have hkb9 := cell1 ((hkeep _ (by have := H7.out.1.kr.1; omega) H7.out.1.kr.2).trans H7.out.1.kc)
  have hob9 := (hkeep _ (by omega) (by omega)).trans H7.out.2.2.2.1
  have hoc9 : w9.cell? ⟨w6.heap.size, 0, none⟩ = some (.slice ca st.l.length cc) := by rw [cell_of_row w9 _ _ _ _ _ hob9]; rfl
  have hor9 : Rd w9 6 (.slice ca st.l.length cc) st.l.length (oneCells (ones st.l)) := Rd.of_owns (owns_same H7.out.2.2.2.2 (fun q hq => hkeep q (by have := (H7.out.2.2.2.2.lt q hq).1; omega) (H7.out.2.2.2.2.lt q hq).2))
  have hcl := cl_leave HI.out (by omega) (W := w.heap.size + 2) hwb9 (by omega) hoc9 (by omega) hor9
  have htk := take_any hmo9 (by rw [ones_len]; omega) _ _ _ HEG.out hcl
  rw [HG.out.1, HG.out.2, ones_len] at htk
  have HTK := Lib.hid htk
  clear hcl htk hmo9 hhb9 hwb9 hkb9 hob9 hoc9 hor9 hkeep
  go_wp2_with (go_at_call 38; go_must (refine HTK.out.mono ?_); rintro ex w10 ⟨ta, tc, rfl, hr10, hm10, hs10⟩; have H10 := Lib.hid (And.intro hr10 (And.intro hm10 hs10)); clear hr10 hm10 hs10)
  have hz10 := H10.out.2.2.size
  have hre : Rd w10 8 (.slice ga (st.out (st.l.filter (fun e => e.own == wv))).length gc) (st.out (st.l.filter (fun e => e.own == wv))).length (entCells (st.out (st.l.filter (fun e => e.own == wv)))) := H9.out.2.2.1.stp H10.out.2.2 (fun q hq e => by have h1 := H9.out.2.2.2 q hq; omega)
  have hsm := same_any (st.out (st.l.filter (fun e => e.own == wv))) ((MInv.small HI.out).filter _) (by have := List.length_filter_le (fun e => decide (e ∉ (st.leaveN (st.l.filter (fun e => e.own == wv))).1.l)) st.l; unfold FS.out; omega) hre (by have h := H10.out.1; exact h)
  have HSM := Lib.hid hsm
  clear hre hsm
  go_wp2_with (go_at_call 24; go_must (refine HSM.out.mono ?_); rintro ex w11 ⟨rfl, hb11⟩; have H11 := Lib.hid hb11; clear hb11)
  go_ret
  have hf10 : Fo w10 p mb (st.leaveN (st.l.filter (fun e => e.own == wv))).1 := H9.out.2.1.same (H10.out.2.2.block p H9.out.2.1.lt p3) (H10.out.2.2.block mb H9.out.2.1.mp.lt p4)
  refine ⟨rfl, (st.leaveN (st.l.filter (fun e => e.own == wv))).1, (HI.out.leave _ (fun y hy => (List.mem_filter.1 hy).1)).mono (by omega), hf10.below H11.out, (by have h := H10.out.2.1.below H11.out; rw [leaveN_left HI.out _ (fun y hy => (List.mem_filter.1 hy).1)] at h ⊢; exact h), fun hB => ?_, fun A hA hAp hAm hAmp _ => ?_⟩
  · have h1 : Below B0 w w7 := H7.out.1.bl.mono hB
    have h2 : Below B0 w7 w9 := H9.out.1.to_below B0 (by omega) (fun k hk => by rcases hk with rfl | rfl <;> assumption)
    have h3 : Below B0 w9 w10 := H10.out.2.2.to_below B0 (by omega) (fun k hk => by subst hk; assumption)
    exact ((h1.trans h2).trans h3).trans (H11.out.mono (by omega))
  · have := H7.out.1.bl.size
    exact (H11.out.block A (by omega)).trans ((H10.out.2.2.block A (by omega) hAmp).trans ((H9.out.1.block A (by omega) (fun h => by rcases h with h | h <;> omega)).trans (H7.out.1.bl.block A hA)))
end
end Go.Proofs.Ytoeeobebkalglaa
