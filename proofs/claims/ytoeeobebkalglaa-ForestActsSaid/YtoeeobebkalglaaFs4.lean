/- A walk of the law's step, a call of kind 4. -/
import Derived.Test.YtoeeobebkalglaaFs0
import Derived.Test.YtoeeobebkalglaaOrt
import Derived.Test.YtoeeobebkalglaaApq
import Derived.Test.YtoeeobebkalglaaFly
import Derived.Test.YtoeeobebkalglaaOpn
import Derived.Test.YtoeeobebkalglaaFrw
import Derived.IntWalk
import Derived.Deep.DeepCutAuto
namespace Go.Proofs.Ytoeeobebkalglaa
open Go.RowKit Go.Ease

/-- What Find's statement leaves. -/
def FindCut (wc : World) (e0 e1 e2 e3 e4 e5 e6 e7 xn : Int) (s18 s19 : Value) (wx : World) : Prop :=
  ∃ b, s18 = .pointer (some ⟨b, 0, none⟩) ∧ s19 = .int .i64 xn ∧ wx.heap[b]? = some (.cells #[.int .u64 e0, .int .u64 e1, .int .i64 e2, .int .u8 e3, .int .u32 e4, .int .u64 e5, .int .u64 e6, .int .i64 e7] 35 (0, 0)) ∧ Below wc.heap.size wc wx

theorem eight_sets {w : World} {b : Nat} {c0 c1 c2 c3 c4 c5 c6 c7 : Value} {t : TypeId} (h : w.heap[b]? = some (.cells #[c0, c1, c2, c3, c4, c5, c6, c7] t (0, 0))) (d0 d1 d2 d3 d4 d5 d6 d7 : Value) :
    ((((((((w.setCell ⟨b, 0, none⟩ d0).setCell ⟨b, 1, none⟩ d1).setCell ⟨b, 2, none⟩ d2).setCell ⟨b, 3, none⟩ d3).setCell ⟨b, 4, none⟩ d4).setCell ⟨b, 5, none⟩ d5).setCell ⟨b, 6, none⟩ d6).setCell ⟨b, 7, none⟩ d7).heap[b]? = some (.cells #[d0, d1, d2, d3, d4, d5, d6, d7] t (0, 0)) := by
  have := heap_setCell_same _ b 7 _ _ d7 (heap_setCell_same _ b 6 _ _ d6 (heap_setCell_same _ b 5 _ _ d5 (heap_setCell_same _ b 4 _ _ d4 (heap_setCell_same _ b 3 _ _ d3 (heap_setCell_same _ b 2 _ _ d2 (heap_setCell_same _ b 1 _ _ d1 (heap_setCell_same w b 0 _ _ d0 h)))))))
  simpa only [List.setIfInBounds_toArray, List.set_cons_zero, List.set_cons_succ] using this

section
set_option maxHeartbeats 4000000
set_option maxRecDepth 100000 in
theorem step_4 {k0 : Nat} {st : FS} (hI : MInv k0 st) (hk0 : k0 ≤ 100) {w : World} {B0 p mb mp base : Nat} (hall : Fo w p mb st ∧ Mo w mp base (ones st.l) st.next ∧ (p < base ∧ mb < base ∧ p ≠ mp ∧ mb ≠ mp) ∧ B0 ≤ p ∧ B0 ≤ mb ∧ B0 ≤ mp) (a : Actv) (ha : a.ok) (hkind : a.kind % 5 = 4) :
    Calls Try.prog 23 (#[.pointer (some ⟨p, 0, none⟩), .pointer (some ⟨mp, 0, none⟩), .agg a.cells.toArray]) w fun e w' => e = .returned (.bool true) ∧ StepTo B0 w k0 p mb mp base w' := by
  obtain ⟨hf, hm, hp, hB1, hB2, hB3⟩ := hall
  obtain ⟨a0, a1, a2, a3, a4, a5, a6⟩ := a
  obtain ⟨⟨x1, x2⟩, x3, x4, x5, x6, x7⟩ := ha
  simp only at x1 x2 x3 x4 x5 x6 x7 hkind
  have hu1 : 0 ≤ IntKind.u64.wrap a1 := by simp only [IntKind.wrap, IntKind.bits, IntKind.signed]; simp; omega
  have hu2 : 0 ≤ IntKind.u64.wrap a2 := by simp only [IntKind.wrap, IntKind.bits, IntKind.signed]; simp; omega
  obtain ⟨hv, hhv⟩ : ∃ h : Int, h = IntKind.u64.wrap a1 % 12 := ⟨_, rfl⟩
  obtain ⟨nv, hnv⟩ : ∃ h : Int, h = IntKind.u64.wrap a2 % 12 := ⟨_, rfl⟩
  have hh0 : 0 ≤ hv ∧ hv ≤ 11 := by omega
  have hn0 : 0 ≤ nv ∧ nv ≤ 11 := by omega
  have e1 : IntKind.i64.wrap ((IntKind.u64.wrap a1).tmod 12) = hv := by rw [Int.tmod_eq_emod_of_nonneg hu1, ← hhv, IntWalk.i64_in _ (by omega)]
  have e2 : IntKind.i64.wrap ((IntKind.u64.wrap a2).tmod 12) = nv := by rw [Int.tmod_eq_emod_of_nonneg hu2, ← hnv, IntWalk.i64_in _ (by omega)]
  obtain ⟨wv, hwv⟩ : ∃ h : Int, h = a3 % 4 := ⟨_, rfl⟩
  obtain ⟨tv, htv⟩ : ∃ h : Int, h = a4 % 4 := ⟨_, rfl⟩
  have hw0 : 0 ≤ wv ∧ wv ≤ 3 := by omega
  have ht0 : 0 ≤ tv ∧ tv ≤ 3 := by omega
  have e3 : a3.tmod 4 = wv := by rw [Int.tmod_eq_emod_of_nonneg x5.1, ← hwv]
  have e4 : a4.tmod 4 = tv := by rw [Int.tmod_eq_emod_of_nonneg x6.1, ← htv]
  have e3' : a3 % 4 = wv := hwv.symm
  have e4' : a4 % 4 = tv := htv.symm
  obtain ⟨hlt, hle, sa, cap, hmb, hmo⟩ := hm
  rw [ones_len] at hmb hmo
  have hrd := Rd.of_owns hmo
  have hsl := hI.ln
  have HF := Lib.hid hf
  have HM := Lib.hid (And.intro hmb (And.intro hmo hrd))
  have HI := Lib.hid hI
  have HP := Lib.hid hp
  have hpl := hf.lt
  have hmbl := hf.mp.lt
  have HE := Lib.hid (And.intro e1 (And.intro e2 (And.intro e3 (And.intro e4 (And.intro e3' e4')))))
  have hfd := fun (wx : World) (hb : Below w.heap.size w wx) (n' : Int) => find1_any (l := ones st.l) (cap := cap) (sa := sa) (mp := mp) (by rw [ones_len, World.cell?_of_block (w := w) (a := ⟨mp, 0, none⟩) (hb.block mp (by omega)), cell_of_row w mp _ _ _ _ hmb]; rfl) (Nat.lt_of_lt_of_le (by omega) hb.size) (by rw [ones_len]; exact hrd.same hb.size (fun g hg => hb.block g (hrd.lt hg))) (by rw [ones_len]; omega) n'
  have HFD := Lib.hid hfd
  clear hu1 hu2 hhv hnv hwv htv e1 e2 e3 e4 e3' e4' hf hmb hmo hrd hI hp hfd
  show Calls Try.prog 23 #[.pointer (some ⟨p, 0, none⟩), .pointer (some ⟨mp, 0, none⟩), .agg #[.int .u8 a0, .int .i64 a1, .int .i64 a2, .int .u32 a3, .int .u32 a4, .int .u8 a5, .int .i64 a6]] w _
  go_enter Try.func23, Try.ntmps23
  go_upto_region 1 with (fail)
  -- THE ACT, h, n
  have hA0 := heap_alloc_new w (.cells #[.int .u8 a0, .int .i64 a1, .int .i64 a2, .int .u32 a3, .int .u32 a4, .int .u8 a5, .int .i64 a6] 37)
  have hb0 : Below w.heap.size w (w.alloc (.cells #[.int .u8 a0, .int .i64 a1, .int .i64 a2, .int .u32 a3, .int .u32 a4, .int .u8 a5, .int .i64 a6] 37)) := (Below.refl _ _).alloc (Nat.le_refl _) _
  have hz0 : (w.alloc (.cells #[.int .u8 a0, .int .i64 a1, .int .i64 a2, .int .u32 a3, .int .u32 a4, .int .u8 a5, .int .i64 a6] 37)).heap.size = w.heap.size + 1 := by simp
  generalize (w.alloc (.cells #[.int .u8 a0, .int .i64 a1, .int .i64 a2, .int .u32 a3, .int .u32 a4, .int .u8 a5, .int .i64 a6] 37)) = w0 at *
  obtain ⟨e1, e2, -⟩ := HE.out
  refine wp_region_ord (fun w' => w'.cell? ⟨w.heap.size, 1, none⟩ = some (.int .i64 a1) ∧ w'.cell? ⟨w.heap.size, 2, none⟩ = some (.int .i64 a2)) 12 [(0,0),(1,0),(2,0),(3,0),(4,0),(5,0),(6,0),(7,0),(8,0),(9,0),(10,1),(11,1),(12,0)] (by as_aux_lemma => kernel_rfl) (by as_aux_lemma => kernel_rfl) (fun c a d v w h => by cases d <;> exact h) (act12 hA0) ?_
  have HA0 := Lib.hid (And.intro hA0 (And.intro hb0 hz0))
  clear hA0 hb0 hz0
  repeat (first | (refine wpOrd_skip rfl rfl ?_; simp only [Act.put, List.setIfInBounds_toArray, List.set_cons_succ, List.set_cons_zero]) | (refine wpOrd_pure rfl rfl ?_; apply Exists.intro; refine ⟨fun wq => ?_, ?_⟩; (go_simp <;> rfl); simp only [Act.put, List.setIfInBounds_toArray, List.set_cons_succ, List.set_cons_zero]) | (refine wpOrd_read rfl rfl (by decide) ?_; apply Exists.intro; refine ⟨fun wq hq => ?_, ?_⟩; (go_simp <;> rfl); simp only [Act.put, List.setIfInBounds_toArray, List.set_cons_succ, List.set_cons_zero]))
  refine wpOrd_act rfl (by decide) (fun K hK => ?_)
  go_wp2_with fail
  refine hK _ _ ?_ (fun hS => ?_)
  all_goals (clear hK K)
  · exact act12 ((Below.heap_alloc _ _ _ (by have := HA0.out.2.2; simp; omega)).trans HA0.out.1)
  refine wpOrd_act rfl (by decide) (fun K hK => ?_)
  go_wp2_with fail
  refine hK _ _ ?_ (fun hS => ?_)
  all_goals (clear hK K)
  · exact act12 ((Below.heap_alloc _ _ _ (by have := HA0.out.2.2; simp; omega)).trans HA0.out.1)
  repeat (first | (refine wpOrd_skip rfl rfl ?_; simp only [Act.put, List.setIfInBounds_toArray, List.set_cons_succ, List.set_cons_zero]) | (refine wpOrd_pure rfl rfl ?_; apply Exists.intro; refine ⟨fun wq => ?_, ?_⟩; (go_simp <;> rfl); simp only [Act.put, List.setIfInBounds_toArray, List.set_cons_succ, List.set_cons_zero]) | (refine wpOrd_read rfl rfl (by decide) ?_; apply Exists.intro; refine ⟨fun wq hq => ?_, ?_⟩; (go_simp <;> rfl); simp only [Act.put, List.setIfInBounds_toArray, List.set_cons_succ, List.set_cons_zero]))
  refine wpOrd_nil ?_
  have hA1 : (w0.alloc (.cells #[.int .i64 hv] 3)).drew.heap[w.heap.size]? = some (.cells #[.int .u8 a0, .int .i64 a1, .int .i64 a2, .int .u32 a3, .int .u32 a4, .int .u8 a5, .int .i64 a6] 37 (0, 0)) := (Below.heap_alloc _ _ _ (by have := HA0.out.2.2; omega)).trans HA0.out.1
  have hB1' : (w0.alloc (.cells #[.int .i64 hv] 3)).drew.heap[w.heap.size + 1]? = some (.cells #[.int .i64 hv] 3 (0, 0)) := by
    have := heap_alloc_new w0 (.cells #[.int .i64 hv] 3)
    rw [HA0.out.2.2] at this
    exact this
  have hb1 : Below w.heap.size w (w0.alloc (.cells #[.int .i64 hv] 3)).drew := (HA0.out.2.1.alloc (by have := HA0.out.2.2; omega) _).drew
  have hz1 : (w0.alloc (.cells #[.int .i64 hv] 3)).drew.heap.size = w.heap.size + 2 := by have := HA0.out.2.2; simp; omega
  have hzz : w0.heap.size = w.heap.size + 1 := HA0.out.2.2
  rw [hzz]
  clear e1 e2 hzz
  generalize (w0.alloc (.cells #[.int .i64 hv] 3)).drew = w1 at *
  have H1 := Lib.hid (And.intro hA1 (And.intro hB1' (And.intro hb1 hz1)))
  clear hA1 hB1' hb1 hz1
  go_upto_region 2 with (fail)
  obtain ⟨-, -, e3, e4, e3', e4'⟩ := HE.out
  refine wp_region_ord (fun w' => w'.cell? ⟨w.heap.size, 3, none⟩ = some (.int .u32 a3) ∧ w'.cell? ⟨w.heap.size, 4, none⟩ = some (.int .u32 a4)) 8 [(0,0),(1,0),(2,0),(3,0),(4,0),(5,0),(6,1),(7,1),(8,0)] (by as_aux_lemma => kernel_rfl) (by as_aux_lemma => kernel_rfl) (fun c a d v w h => by cases d <;> exact h) ⟨(seven_cells H1.out.1).2.2.2.1, (seven_cells H1.out.1).2.2.2.2.1⟩ ?_
  repeat (first | (refine wpOrd_skip rfl rfl ?_; simp only [Act.put, List.setIfInBounds_toArray, List.set_cons_succ, List.set_cons_zero]) | (refine wpOrd_pure rfl rfl ?_; apply Exists.intro; refine ⟨fun wq => ?_, ?_⟩; (go_simp <;> rfl); simp only [Act.put, List.setIfInBounds_toArray, List.set_cons_succ, List.set_cons_zero]) | (refine wpOrd_read rfl rfl (by decide) ?_; apply Exists.intro; refine ⟨fun wq hq => ?_, ?_⟩; (go_simp <;> rfl); simp only [Act.put, List.setIfInBounds_toArray, List.set_cons_succ, List.set_cons_zero]))
  refine wpOrd_act rfl (by decide) (fun K hK => ?_)
  go_wp2_with fail
  refine hK _ _ ?_ (fun hS => ?_)
  all_goals (clear hK K)
  · have := seven_cells ((Below.heap_alloc w1 (.cells #[.int .u32 0] 33) w.heap.size (by have := H1.out.2.2.2; omega)).trans H1.out.1)
    exact ⟨this.2.2.2.1, this.2.2.2.2.1⟩
  refine wpOrd_act rfl (by decide) (fun K hK => ?_)
  go_wp2_with fail
  refine hK _ _ ?_ (fun hS => ?_)
  all_goals (clear hK K)
  · have := seven_cells ((Below.heap_alloc w1 (.cells #[.int .u32 wv] 33) w.heap.size (by have := H1.out.2.2.2; omega)).trans H1.out.1)
    exact ⟨this.2.2.2.1, this.2.2.2.2.1⟩
  repeat (first | (refine wpOrd_skip rfl rfl ?_; simp only [Act.put, List.setIfInBounds_toArray, List.set_cons_succ, List.set_cons_zero]) | (refine wpOrd_pure rfl rfl ?_; apply Exists.intro; refine ⟨fun wq => ?_, ?_⟩; (go_simp <;> rfl); simp only [Act.put, List.setIfInBounds_toArray, List.set_cons_succ, List.set_cons_zero]) | (refine wpOrd_read rfl rfl (by decide) ?_; apply Exists.intro; refine ⟨fun wq hq => ?_, ?_⟩; (go_simp <;> rfl); simp only [Act.put, List.setIfInBounds_toArray, List.set_cons_succ, List.set_cons_zero]))
  refine wpOrd_nil ?_
  have hA2 : (w1.alloc (.cells #[.int .u32 wv] 33)).drew.heap[w.heap.size]? = some (.cells #[.int .u8 a0, .int .i64 a1, .int .i64 a2, .int .u32 a3, .int .u32 a4, .int .u8 a5, .int .i64 a6] 37 (0, 0)) := (Below.heap_alloc _ _ _ (by have := H1.out.2.2.2; omega)).trans H1.out.1
  have hB2' : (w1.alloc (.cells #[.int .u32 wv] 33)).drew.heap[w.heap.size + 1]? = some (.cells #[.int .i64 hv] 3 (0, 0)) := (Below.heap_alloc _ _ _ (by have := H1.out.2.2.2; omega)).trans H1.out.2.1
  have hC2 : (w1.alloc (.cells #[.int .u32 wv] 33)).drew.heap[w.heap.size + 2]? = some (.cells #[.int .u32 wv] 33 (0, 0)) := by
    have := heap_alloc_new w1 (.cells #[.int .u32 wv] 33)
    rw [H1.out.2.2.2] at this
    exact this
  have hb2 : Below w.heap.size w (w1.alloc (.cells #[.int .u32 wv] 33)).drew := (H1.out.2.2.1.alloc (by have := H1.out.2.2.2; omega) _).drew
  have hz2 : (w1.alloc (.cells #[.int .u32 wv] 33)).drew.heap.size = w.heap.size + 3 := by have := H1.out.2.2.2; simp; omega
  have hzz : w1.heap.size = w.heap.size + 2 := H1.out.2.2.2
  rw [hzz]
  clear e3 e4 e3' e4' hzz
  generalize (w1.alloc (.cells #[.int .u32 wv] 33)).drew = w2 at *
  have hq1 := cell1 hB2'
  have hqz : w.heap.size + 3 ≤ w2.heap.size := by omega
  have H2 := Lib.hid (And.intro hA2 (And.intro hB2' (And.intro hC2 (And.intro hb2 hz2))))
  clear hA2 hB2' hC2 hb2 hz2
  have hf3 := HFD.out w2 H2.out.2.2.2.1 hv
  have hat := atN_cases HI.out hv
  have HAT := Lib.hid hat
  obtain ⟨kv, hkv⟩ : ∃ k, k = placeOf (fun x : One => x.n == hv) (ones st.l) := ⟨_, rfl⟩
  rw [← hkv] at hf3
  have HKV := Lib.hid hkv
  have HF3 := Lib.hid hf3
  clear hf3 hkv hat
  go_upto_region 4 with (go_at_call 36; go_must (refine (HF3.out).mono ?_); rintro ex w3 ⟨rfl, hbf⟩; have H3 := Lib.hid hbf; clear hbf)
  have hse : SEnv w (w3.alloc (.cells #[.int .i64 kv] 3)) a0 a1 a2 a3 a4 a5 a6 hv wv kv w3.heap.size := by
    have h3 := H3.out
    have hz3 := h3.size
    refine ⟨?_, ?_, ?_, ⟨by omega, by simp⟩, heap_alloc_new _ _, (H2.out.2.2.2.1.trans (h3.mono H2.out.2.2.2.1.size)).alloc (by omega) _⟩
    · exact (Below.heap_alloc _ _ _ (by omega)).trans ((h3.block _ (by omega)).trans H2.out.1)
    · exact (Below.heap_alloc _ _ _ (by omega)).trans ((h3.block _ (by omega)).trans H2.out.2.1)
    · exact (Below.heap_alloc _ _ _ (by omega)).trans ((h3.block _ (by omega)).trans H2.out.2.2.1)
  generalize w3.heap.size = kb at *
  generalize (w3.alloc (.cells #[.int .i64 kv] 3)) = w4 at *
  have HSE := Lib.hid hse
  clear hse hq1 hqz
  go_cut [12] from 39 to 52 (fun s12 wx => s12 = .bool (mineB st hv wv) ∧ SEnv w wx a0 a1 a2 a3 a4 a5 a6 hv wv kv kb)
  case first =>
    have hsq := HSE.out
    have hat := HAT.out
    have hkv := HKV.out
    obtain ⟨hmb, hmo, hrd⟩ := HM.out
    have hm4 : w4.cell? ⟨mp, 0, none⟩ = some (.slice sa st.l.length cap) := by rw [World.cell?_of_block (w := w) (a := ⟨mp, 0, none⟩) (hsq.bl.block mp (by omega)), cell_of_row w mp _ _ _ _ hmb]; rfl
    have hc1 := cell1 hsq.kc
    have hc2 := cell1 hsq.wb
    rcases hat with ⟨i, e, ha, hi, hfe, hh, hee⟩ | ⟨ha, hfe⟩
    · have hki : kv = i := by rw [hkv]; exact ha
      subst hki
      have hil : i < st.l.length := (List.getElem?_eq_some_iff.1 hi).1
      rcases hrd.2 with ⟨_, hz⟩ | ⟨g0, off, cap', he, _, hgl, hcc⟩
      · omega
      cases he
      have h6 := (one_cells hcc (by rw [ones_get, hi]; rfl : (ones st.l)[i]? = some (One.of e))).2.2.2.2.2
      have hm6 : w4.cell? ⟨g0, off + i * 6 + 5, none⟩ = some (.int .u32 e.own) := by rw [World.cell?_of_block (w := w) (a := ⟨g0, off + i * 6 + 5, none⟩) (hsq.bl.block g0 hgl)]; exact h6
      have hmine : mineB st hv wv = (e.own == wv) := by simp only [mineB, hfe]
      have HMN := Lib.hid hmine
      have hil0 : (0 : Int) ≤ (i : Int) := by omega
      have hdi : decide ((0 : Int) ≤ (i : Int)) = true := by simp
      clear hsq hkv hmb hmo hrd hcc h6 hi hfe hh hee ha hmine
      refine wp_region_ord (fun w' => w'.cell? ⟨kb, 0, none⟩ = some (.int .i64 i) ∧ w'.cell? ⟨w.heap.size + 2, 0, none⟩ = some (.int .u32 wv) ∧ w'.cell? ⟨mp, 0, none⟩ = some (.slice (some ⟨g0, off, none⟩) st.l.length cap) ∧ w'.cell? ⟨g0, off + i * 6 + 5, none⟩ = some (.int .u32 e.own)) 15 [(0,0),(1,0),(2,0),(3,0),(4,0),(5,0),(6,0),(7,0),(8,0),(9,0),(10,0),(11,0),(12,0),(13,0),(14,0)] (by as_aux_lemma => kernel_rfl) (by as_aux_lemma => kernel_rfl) (fun c a d v w h => by cases d <;> exact h) ⟨hc1, hc2, hm4, hm6⟩ ?_
      repeat (first | (refine wpOrd_skip rfl rfl ?_; simp only [Act.put, List.setIfInBounds_toArray, List.set_cons_succ, List.set_cons_zero]) | (refine wpOrd_pure rfl rfl ?_; apply Exists.intro; refine ⟨fun wq => ?_, ?_⟩; (go_simp <;> rfl); simp only [Act.put, List.setIfInBounds_toArray, List.set_cons_succ, List.set_cons_zero]) | (refine wpOrd_read rfl rfl (by decide) ?_; apply Exists.intro; refine ⟨fun wq hq => ?_, ?_⟩; (go_simp <;> rfl); simp only [Act.put, List.setIfInBounds_toArray, List.set_cons_succ, List.set_cons_zero]))
      refine wpOrd_nil ?_
      go_wp2_with fail
      go_meet
      exact ⟨by rw [HMN.out], HSE.out.same (Below.refl _ _).drew⟩
    · have hki : kv = -1 := by rw [hkv]; exact ha
      subst hki
      have hmine : mineB st hv wv = false := by simp only [mineB, hfe]
      have HMN := Lib.hid hmine
      clear hsq hkv hmb hmo hrd hfe ha hmine
      refine wp_region_ord (fun w' => w'.cell? ⟨kb, 0, none⟩ = some (.int .i64 (-1))) 15 [(0,0),(1,0),(2,0),(3,0),(4,0),(5,0),(6,0),(7,0),(8,0),(9,0),(10,0),(11,0),(12,0),(13,0),(14,0)] (by as_aux_lemma => kernel_rfl) (by as_aux_lemma => kernel_rfl) (fun c a d v w h => by cases d <;> exact h) hc1 ?_
      repeat (first | (refine wpOrd_skip rfl rfl ?_; simp only [Act.put, List.setIfInBounds_toArray, List.set_cons_succ, List.set_cons_zero]) | (refine wpOrd_pure rfl rfl ?_; apply Exists.intro; refine ⟨fun wq => ?_, ?_⟩; (go_simp <;> rfl); simp only [Act.put, List.setIfInBounds_toArray, List.set_cons_succ, List.set_cons_zero]) | (refine wpOrd_read rfl rfl (by decide) ?_; apply Exists.intro; refine ⟨fun wq hq => ?_, ?_⟩; (go_simp <;> rfl); simp only [Act.put, List.setIfInBounds_toArray, List.set_cons_succ, List.set_cons_zero]))
      refine wpOrd_nil ?_
      go_wp2_with fail
      go_meet
      exact ⟨by rw [HMN.out], HSE.out.same (Below.refl _ _).drew⟩
  case rest =>
  obtain ⟨rfl, hse5⟩ := hcut
  have HSE5 := Lib.hid hse5
  clear hse5 HSE
  go_upto_region 5 with (fail)
  go_cut [13] from 53 to 60 (fun s13 wx => s13 = .bool (freeB st nv) ∧ SEnv w wx a0 a1 a2 a3 a4 a5 a6 hv wv kv kb)
  case first =>
    by_cases hn1 : nv = 0
    · have hfr : freeB st nv = false := by simp [freeB, hn1]
      have HFR := Lib.hid hfr
      clear hfr
      have hn2 : (nv != 0) = false := by simpa using hn1
      clear hn1
      go_wp2_with fail
      go_meet
      exact ⟨by rw [HFR.out], HSE5.out⟩
    · have hn2 : (nv != 0) = true := by simpa using hn1
      have hf5 := HFD.out wc HSE5.out.bl nv
      rcases atN_cases HI.out nv with ⟨i, e, ha, -, hfe, -, -⟩ | ⟨ha, hfe⟩
      · have hfr : freeB st nv = false := by simp [freeB, hfe]
        unfold atN at ha
        rw [ha] at hf5
        have HF5 := Lib.hid hf5
        have HFR := Lib.hid hfr
        have hdi : decide ((i : Int) < 0) = false := by simp
        clear hf5 ha hfe hn1 hfr
        go_wp2_with (go_at_call 36; go_must (refine (HF5.out).mono ?_); rintro ex w5 ⟨rfl, hbf⟩; have H5 := Lib.hid hbf; clear hbf)
        go_meet
        exact ⟨by rw [HFR.out], HSE5.out.same H5.out⟩
      · have hfr : freeB st nv = true := by simp [freeB, hfe, hn1]
        unfold atN at ha
        rw [ha] at hf5
        have HF5 := Lib.hid hf5
        have HFR := Lib.hid hfr
        clear hf5 ha hfe hn1 hfr
        go_wp2_with (go_at_call 36; go_must (refine (HF5.out).mono ?_); rintro ex w5 ⟨rfl, hbf⟩; have H5 := Lib.hid hbf; clear hbf)
        go_meet
        exact ⟨by rw [HFR.out], HSE5.out.same H5.out⟩
  case rest =>
  obtain ⟨rfl, hse5⟩ := hcut
  have hf5 : Fo wc p mb st := HF.out.below hse5.bl
  have hm5 : Mo wc mp base (ones st.l) st.next := Mo.below ⟨hlt, hle, sa, cap, by rw [ones_len]; exact HM.out.1, by rw [ones_len]; exact HM.out.2.1⟩ hse5.bl
  have q5 := seven_cells hse5.act
  have qw := cell1 hse5.wb
  have hwz := hse5.bl.size
  have hkr := hse5.kr
  have HSE := Lib.hid hse5
  have HFM := Lib.hid (And.intro hf5 hm5)
  clear hse5 HSE5 hf5 hm5 HE HFD HA0 H1 H2 H3 HF3
  obtain ⟨w5, rfl⟩ : ∃ w5 : World, w5 = wc := ⟨_, rfl⟩
  obtain ⟨q0, q1, q2, q3, q4, q5', q6⟩ := q5
  have qh := cell1 HSE.out.hb
  obtain ⟨fr, hfr⟩ : ∃ b, b = freeB st nv := ⟨_, rfl⟩
  rw [← hfr]
  clear q1 q2 q3 q4 q5' q6 hfr
  have hk5 : (a0 % 5 == 0) = false := by rw [hkind]; rfl
  have hk6 : (a0 % 5 == 1) = false := by rw [hkind]; rfl
  have hk7 : (a0 % 5 == 2) = false := by rw [hkind]; rfl
  have hk8 : (a0 % 5 == 3) = false := by rw [hkind]; rfl
  have hh1 := handle_any hv (by omega)
  simp only [Hd.v] at hh1
  have HH1 := Lib.hid hh1
  clear hh1
  have hkd : (⟨0, hv⟩ : Hd).ok := by simp only [Hd.ok]; omega
  have hpick : ∃ (en : Ent) (xn : Int), (mineB st hv wv = true ∧ xn = 0 ∧ st.find ⟨0, hv⟩ = some en ∧ en.own = wv ∨ mineB st hv wv = false ∧ en = Ent.zero ∧ xn = 7) ∧ (match st.find ⟨0, hv⟩ with | some e => if e.own = wv then en.v = e.v ∧ xn = 0 else en.v = Ent.zero.v ∧ xn = 7 | none => en.v = Ent.zero.v ∧ xn = 7) := by
    cases hq : st.find ⟨0, hv⟩ with
    | none => exact ⟨Ent.zero, 7, .inr ⟨by simp [mineB, hq], rfl, rfl⟩, rfl, rfl⟩
    | some e =>
      by_cases ho : e.own = wv
      · exact ⟨e, 0, .inl ⟨by simp [mineB, hq, ho], rfl, rfl, ho⟩, by simp [ho]⟩
      · exact ⟨Ent.zero, 7, .inr ⟨by simp [mineB, hq, ho], rfl, rfl⟩, by simp [ho]⟩
  obtain ⟨en, xn, hcase, hmt⟩ := hpick
  have hR := fun (wx : World) (hx : Fo wx p mb st) => find_any hx ⟨0, hv⟩ hkd wv en.v xn hmt
  have HR := Lib.hid hR
  have HCS := Lib.hid hcase
  clear hR hmt hcase hkd
  obtain ⟨⟨e0, e1⟩, e2, e3, e4, ⟨e5, e6⟩, e7⟩ := en
  go_upto_region 33 with (fail)
  clear hkind hk5 hk6 hk7 hk8
  go_cut [18, 19] from 237 to 244 (fun s18 s19 wx => FindCut w5 e0 e1 e2 e3 e4 e5 e6 e7 xn s18 s19 wx)
  case first =>
    have hsz1 : w.heap.size + 2 < w5.heap.size := lt_of_block HSE.out.wb
    have HS0 : ∀ wx : World, Below w5.heap.size w5 wx → wx.cell? ⟨w.heap.size + 1, 0, none⟩ = some (.int .i64 hv) ∧ wx.cell? ⟨w.heap.size + 2, 0, none⟩ = some (.int .u32 wv) := fun wx hx => ⟨cell1 (HSE.out.same hx).hb, cell1 (HSE.out.same hx).wb⟩
    have HS := Lib.hid HS0
    clear HS0
    refine wp_region_pl (fun w' => w'.cell? ⟨w.heap.size + 1, 0, none⟩ = some (.int .i64 hv) ∧ w'.cell? ⟨w.heap.size + 2, 0, none⟩ = some (.int .u32 wv)) 10 (.pure 0 (.pure 1 (.pure 3 (.act 2 (.act 4 (.pure 5 (.pure 6 (.pure 7 (.act 8 (.act 9 (.pure 10 .done) .stop) .stop)))) (.act 8 (.act 4 (.pure 5 (.pure 6 (.pure 7 (.act 9 (.pure 10 .done) .stop)))) .stop) .stop)) (.act 8 (.act 2 (.act 4 (.pure 5 (.pure 6 (.pure 7 (.act 9 (.pure 10 .done) .stop)))) .stop) .stop) .stop))))) (by kernel_rfl) (by kernel_rfl) (fun c a d v w h => by cases d <;> exact h) ⟨qh, qw⟩ ?_
    clear qh qw q0
    repeat (first | (refine wpPl_skip rfl rfl ?_; simp only [Act.put, List.setIfInBounds_toArray, List.set_cons_succ, List.set_cons_zero]) | (refine wpPl_pure rfl rfl ?_; apply Exists.intro; refine ⟨fun wq => ?_, ?_⟩; (go_simp <;> rfl); simp only [Act.put, List.setIfInBounds_toArray, List.set_cons_succ, List.set_cons_zero]) | (refine wpPl_read rfl rfl (by decide) ?_; apply Exists.intro; refine ⟨fun wq hq => ?_, ?_⟩; (go_simp <;> rfl); simp only [Act.put, List.setIfInBounds_toArray, List.set_cons_succ, List.set_cons_zero]))
    refine wpPl_act rfl (by decide) (fun K hK => ?_) ?_
    · go_wp2_with (go_at_call 9; go_must (refine (HH1.out _).mono ?_); rintro ex w8 ⟨rfl, hb8⟩; have B8 := Lib.hid hb8; clear hb8)
      refine hK _ _ ?_ (fun hS => ?_)
      all_goals (clear hK K)
      · exact HS.out _ (below_undrew B8.out)
      have b8 := below_undrew B8.out
      have hz8 := b8.size
      have C8 := Lib.hid b8
      clear b8
      refine wpPl_act rfl (by decide) (fun K hK => ?_) ?_
      · go_wp2_with (go_at_call 18; go_must (refine (HR.out _ (by exact HFM.out.1.below C8.out)).mono ?_); rintro ex w9 ⟨rfl, hb9⟩; have B9 := Lib.hid hb9; clear hb9)
        refine hK _ _ ?_ (fun hS => ?_)
        all_goals (clear hK K)
        · exact HS.out _ (C8.out.trans (B9.out.mono hz8))
        have hz9 := B9.out.size
        simp only [Ent.v, Ent.cells]
        repeat (first | (refine wpPl_skip rfl rfl ?_; simp only [Act.put, List.setIfInBounds_toArray, List.set_cons_succ, List.set_cons_zero]) | (refine wpPl_pure rfl rfl ?_; apply Exists.intro; refine ⟨fun wq => ?_, ?_⟩; (go_simp <;> rfl); simp only [Act.put, List.setIfInBounds_toArray, List.set_cons_succ, List.set_cons_zero]) | (refine wpPl_read rfl rfl (by decide) ?_; apply Exists.intro; refine ⟨fun wq hq => ?_, ?_⟩; (go_simp <;> rfl); simp only [Act.put, List.setIfInBounds_toArray, List.set_cons_succ, List.set_cons_zero]))
        refine wpPl_act rfl (by decide) (fun K hK => ?_) wpPl_stop
        go_wp2_with fail
        refine hK _ _ ?_ (fun hS => ?_)
        all_goals (clear hK K)
        · exact HS.out _ ((C8.out.trans (B9.out.mono hz8)).alloc (by omega) _)
        refine wpPl_act rfl (by decide) (fun K hK => ?_) wpPl_stop
        go_wp2_with fail
        refine hK _ _ ?_ (fun hS => ?_)
        all_goals (clear hK K)
        · exact HS.out _ ((C8.out.trans (B9.out.mono hz8)).alloc (by omega) _)
        repeat (first | (refine wpPl_skip rfl rfl ?_; simp only [Act.put, List.setIfInBounds_toArray, List.set_cons_succ, List.set_cons_zero]) | (refine wpPl_pure rfl rfl ?_; apply Exists.intro; refine ⟨fun wq => ?_, ?_⟩; (go_simp <;> rfl); simp only [Act.put, List.setIfInBounds_toArray, List.set_cons_succ, List.set_cons_zero]) | (refine wpPl_read rfl rfl (by decide) ?_; apply Exists.intro; refine ⟨fun wq hq => ?_, ?_⟩; (go_simp <;> rfl); simp only [Act.put, List.setIfInBounds_toArray, List.set_cons_succ, List.set_cons_zero]))
        refine wpPl_done ?_
        go_wp2_with fail
        go_meet
        exact ⟨w9.heap.size, rfl, rfl, heap_alloc_new _ _, (C8.out.trans (B9.out.mono hz8)).alloc (by omega) _⟩
      · refine wpPl_act rfl (by decide) (fun K hK => ?_) wpPl_stop
        go_wp2_with fail
        refine hK _ _ ?_ (fun hS => ?_)
        all_goals (clear hK K)
        · exact HS.out _ (C8.out.alloc hz8 _)
        refine wpPl_act rfl (by decide) (fun K hK => ?_) wpPl_stop
        go_wp2_with (go_at_call 18; go_must (refine (HR.out _ (by exact (HFM.out.1.below C8.out).below ((Below.refl _ _).alloc (Nat.le_refl _) _))).mono ?_); rintro ex w9 ⟨rfl, hb9⟩; have B9 := Lib.hid hb9; clear hb9)
        refine hK _ _ ?_ (fun hS => ?_)
        all_goals (clear hK K)
        · exact HS.out _ ((C8.out.alloc hz8 _).trans (B9.out.mono (by simp; omega)))
        have hbz := below_block B9.out (heap_alloc_new w8 _)
        have c0 := eight_cells hbz
        obtain ⟨c0, c1, c2, c3, c4, c5, c6, c7⟩ := c0
        have hfz := fun j => frozen_of_row _ w8.heap.size j _ _ hbz
        have hlz : w8.heap.size < w9.heap.size := lt_of_block hbz
        have HBZ := Lib.hid hbz
        clear hbz
        simp only [Ent.v, Ent.cells]
        repeat (first | (refine wpPl_skip rfl rfl ?_; simp only [Act.put, List.setIfInBounds_toArray, List.set_cons_succ, List.set_cons_zero]) | (refine wpPl_pure rfl rfl ?_; apply Exists.intro; refine ⟨fun wq => ?_, ?_⟩; (go_simp <;> rfl); simp only [Act.put, List.setIfInBounds_toArray, List.set_cons_succ, List.set_cons_zero]) | (refine wpPl_read rfl rfl (by decide) ?_; apply Exists.intro; refine ⟨fun wq hq => ?_, ?_⟩; (go_simp <;> rfl); simp only [Act.put, List.setIfInBounds_toArray, List.set_cons_succ, List.set_cons_zero]))
        refine wpPl_act rfl (by decide) (fun K hK => ?_) wpPl_stop
        go_wp2_with fail
        have h8s := eight_sets HBZ.out (.int .u64 e0) (.int .u64 e1) (.int .i64 e2) (.int .u8 e3) (.int .u32 e4) (.int .u64 e5) (.int .u64 e6) (.int .i64 e7)
        have hb8s : Below w5.heap.size w5 _ := (((((((((C8.out.alloc hz8 _).trans (B9.out.mono (by simp; omega))).setCell (p := ⟨w8.heap.size, 0, none⟩) (by simp <;> omega) (.int .u64 e0)).setCell (p := ⟨w8.heap.size, 1, none⟩) (by simp <;> omega) (.int .u64 e1)).setCell (p := ⟨w8.heap.size, 2, none⟩) (by simp <;> omega) (.int .i64 e2)).setCell (p := ⟨w8.heap.size, 3, none⟩) (by simp <;> omega) (.int .u8 e3)).setCell (p := ⟨w8.heap.size, 4, none⟩) (by simp <;> omega) (.int .u32 e4)).setCell (p := ⟨w8.heap.size, 5, none⟩) (by simp <;> omega) (.int .u64 e5)).setCell (p := ⟨w8.heap.size, 6, none⟩) (by simp <;> omega) (.int .u64 e6)).setCell (p := ⟨w8.heap.size, 7, none⟩) (by simp <;> omega) (.int .i64 e7)
        have HB8 := Lib.hid (And.intro h8s hb8s)
        clear h8s hb8s c0 c1 c2 c3 c4 c5 c6 c7 hfz
        refine hK _ _ ?_ (fun hS => ?_)
        all_goals (clear hK K)
        · exact HS.out _ HB8.out.2
        repeat (first | (refine wpPl_skip rfl rfl ?_; simp only [Act.put, List.setIfInBounds_toArray, List.set_cons_succ, List.set_cons_zero]) | (refine wpPl_pure rfl rfl ?_; apply Exists.intro; refine ⟨fun wq => ?_, ?_⟩; (go_simp <;> rfl); simp only [Act.put, List.setIfInBounds_toArray, List.set_cons_succ, List.set_cons_zero]) | (refine wpPl_read rfl rfl (by decide) ?_; apply Exists.intro; refine ⟨fun wq hq => ?_, ?_⟩; (go_simp <;> rfl); simp only [Act.put, List.setIfInBounds_toArray, List.set_cons_succ, List.set_cons_zero]))
        refine wpPl_done ?_
        go_wp2_with fail
        go_meet
        exact ⟨_, rfl, rfl, HB8.out.1, HB8.out.2⟩
    · refine wpPl_act rfl (by decide) (fun K hK => ?_) wpPl_stop
      go_wp2_with fail
      refine hK _ _ ?_ (fun hS => ?_)
      all_goals (clear hK K)
      · exact HS.out _ (((Below.refl _ _).alloc (Nat.le_refl _) _).drew)
      refine wpPl_act rfl (by decide) (fun K hK => ?_) wpPl_stop
      go_wp2_with (go_at_call 9; go_must (refine (HH1.out _).mono ?_); rintro ex w8 ⟨rfl, hb8⟩; have B8 := Lib.hid hb8; clear hb8)
      refine hK _ _ ?_ (fun hS => ?_)
      all_goals (clear hK K)
      · exact HS.out _ ((((Below.refl w5.heap.size w5).alloc (Nat.le_refl _) _).drew).trans (B8.out.mono (by simp)))
      have hz8 := B8.out.size
      simp only [World.size_drew, World.size_alloc] at hz8
      refine wpPl_act rfl (by decide) (fun K hK => ?_) wpPl_stop
      go_wp2_with (go_at_call 18; go_must (refine (HR.out _ (by exact HFM.out.1.below ((((Below.refl w5.heap.size w5).alloc (Nat.le_refl _) _).drew).trans (B8.out.mono (by simp))))).mono ?_); rintro ex w9 ⟨rfl, hb9⟩; have B9 := Lib.hid hb9; clear hb9)
      refine hK _ _ ?_ (fun hS => ?_)
      all_goals (clear hK K)
      · exact HS.out _ (((((Below.refl w5.heap.size w5).alloc (Nat.le_refl _) _).drew).trans (B8.out.mono (by simp))).trans (B9.out.mono (by omega)))
      have hbz := (B9.out.block _ (by omega)).trans (below_block B8.out (heap_alloc_new w5 _))
      have c0 := eight_cells hbz
      obtain ⟨c0, c1, c2, c3, c4, c5, c6, c7⟩ := c0
      have hfz := fun j => frozen_of_row _ w5.heap.size j _ _ hbz
      have hlz : w5.heap.size < w9.heap.size := lt_of_block hbz
      have HBZ := Lib.hid hbz
      clear hbz
      simp only [Ent.v, Ent.cells]
      repeat (first | (refine wpPl_skip rfl rfl ?_; simp only [Act.put, List.setIfInBounds_toArray, List.set_cons_succ, List.set_cons_zero]) | (refine wpPl_pure rfl rfl ?_; apply Exists.intro; refine ⟨fun wq => ?_, ?_⟩; (go_simp <;> rfl); simp only [Act.put, List.setIfInBounds_toArray, List.set_cons_succ, List.set_cons_zero]) | (refine wpPl_read rfl rfl (by decide) ?_; apply Exists.intro; refine ⟨fun wq hq => ?_, ?_⟩; (go_simp <;> rfl); simp only [Act.put, List.setIfInBounds_toArray, List.set_cons_succ, List.set_cons_zero]))
      refine wpPl_act rfl (by decide) (fun K hK => ?_) wpPl_stop
      go_wp2_with fail
      have h8s := eight_sets HBZ.out (.int .u64 e0) (.int .u64 e1) (.int .i64 e2) (.int .u8 e3) (.int .u32 e4) (.int .u64 e5) (.int .u64 e6) (.int .i64 e7)
      have hb8s : Below w5.heap.size w5 _ := ((((((((((((Below.refl w5.heap.size w5).alloc (Nat.le_refl _) _).drew).trans (B8.out.mono (by simp))).trans (B9.out.mono (by omega))).setCell (p := ⟨w5.heap.size, 0, none⟩) (by simp <;> omega) (.int .u64 e0)).setCell (p := ⟨w5.heap.size, 1, none⟩) (by simp <;> omega) (.int .u64 e1)).setCell (p := ⟨w5.heap.size, 2, none⟩) (by simp <;> omega) (.int .i64 e2)).setCell (p := ⟨w5.heap.size, 3, none⟩) (by simp <;> omega) (.int .u8 e3)).setCell (p := ⟨w5.heap.size, 4, none⟩) (by simp <;> omega) (.int .u32 e4)).setCell (p := ⟨w5.heap.size, 5, none⟩) (by simp <;> omega) (.int .u64 e5)).setCell (p := ⟨w5.heap.size, 6, none⟩) (by simp <;> omega) (.int .u64 e6)).setCell (p := ⟨w5.heap.size, 7, none⟩) (by simp <;> omega) (.int .i64 e7)
      have HB8 := Lib.hid (And.intro h8s hb8s)
      clear h8s hb8s c0 c1 c2 c3 c4 c5 c6 c7 hfz
      refine hK _ _ ?_ (fun hS => ?_)
      all_goals (clear hK K)
      · exact HS.out _ HB8.out.2
      repeat (first | (refine wpPl_skip rfl rfl ?_; simp only [Act.put, List.setIfInBounds_toArray, List.set_cons_succ, List.set_cons_zero]) | (refine wpPl_pure rfl rfl ?_; apply Exists.intro; refine ⟨fun wq => ?_, ?_⟩; (go_simp <;> rfl); simp only [Act.put, List.setIfInBounds_toArray, List.set_cons_succ, List.set_cons_zero]) | (refine wpPl_read rfl rfl (by decide) ?_; apply Exists.intro; refine ⟨fun wq hq => ?_, ?_⟩; (go_simp <;> rfl); simp only [Act.put, List.setIfInBounds_toArray, List.set_cons_succ, List.set_cons_zero]))
      refine wpPl_done ?_
      go_wp2_with fail
      go_meet
      exact ⟨_, rfl, rfl, HB8.out.1, HB8.out.2⟩
  case rest =>
  obtain ⟨b, rfl, rfl, hbb, hbw⟩ := hcut
  have h8 := eight_cells hbb
  have hbl := lt_of_block hbb
  have HW := Lib.hid (And.intro hbb hbw)
  clear hbb hbw qh qw q0
  rcases HCS.out with ⟨hmi, hx0, hfe, how⟩ | ⟨hmi, hez, hx7⟩
  · rw [hmi]
    subst hx0
    have hat := HAT.out
    rcases hat with ⟨i, e, ha, hi, hfe', hhh, hee⟩ | ⟨-, hfe'⟩
    case inr => rw [hfe] at hfe'; cases hfe'
    rw [hfe] at hfe'
    simp only [Option.some.injEq] at hfe'
    subst hfe'
    have hki : kv = i := HKV.out.trans ha
    subst hki
    have hil : i < st.l.length := (List.getElem?_eq_some_iff.1 hi).1
    have hsm : Small [(⟨⟨e0, e1⟩, e2, e3, e4, ⟨e5, e6⟩, e7⟩ : Ent)] := fun x hx => by
      simp only [List.mem_singleton] at hx
      subst hx
      exact MInv.small HI.out _ hee
    have hse := HSE.out.same HW.out.2
    obtain ⟨-, -, sa9, cap9, hmb9, hmo9⟩ := HFM.out.2.below HW.out.2
    have hg9 := owns_form hmo9 (by rw [ones_len]; omega)
    obtain ⟨g9, c9, hv9, -, -, -, hgl9, hgc9, -⟩ := hg9
    simp only [Value.slice.injEq, true_and] at hv9
    obtain ⟨rfl, rfl⟩ := hv9
    have qm0 : wc.cell? ⟨mp, 0, none⟩ = some (.slice (some ⟨g9, 0, none⟩) st.l.length cap9) := by rw [cell_of_row wc mp _ _ _ _ hmb9, ← ones_len st.l]; rfl
    have qo : wc.cell? ⟨g9, i * 6, none⟩ = some (.int .i64 e1) ∧ wc.cell? ⟨g9, i * 6 + 1, none⟩ = some (.int .i64 e6) ∧ wc.cell? ⟨g9, i * 6 + 2, none⟩ = some (.int .i64 e2) ∧ wc.cell? ⟨g9, i * 6 + 3, none⟩ = some (.int .i64 e7) ∧ wc.cell? ⟨g9, i * 6 + 4, none⟩ = some (.int .u8 e3) ∧ wc.cell? ⟨g9, i * 6 + 5, none⟩ = some (.int .u32 e4) := by
      have hge := fun c hc => flat_get 6 One.cells One.cells_len (ones st.l) i c hc
      rw [ones_get, hi] at hge
      refine ⟨?_, ?_, ?_, ?_, ?_, ?_⟩ <;> rw [hgc9 _ (by rw [ones_len]; omega)]
      · exact hge 0 (by omega)
      · exact hge 1 (by omega)
      · exact hge 2 (by omega)
      · exact hge 3 (by omega)
      · exact hge 4 (by omega)
      · exact hge 5 (by omega)
    have qk := cell1 hse.kc
    have hkl := hse.kr.2
    have hml := lt_of_block hmb9
    have HSE9 := Lib.hid (And.intro hse (And.intro h8 (And.intro qm0 (And.intro qk qo))))
    have HSM := Lib.hid hsm
    have HS0 : ∀ wx : World, Below wc.heap.size wc wx → (wx.cell? ⟨b, 0, none⟩ = some (.int .u64 e0) ∧ wx.cell? ⟨b, 1, none⟩ = some (.int .u64 e1) ∧ wx.cell? ⟨b, 2, none⟩ = some (.int .i64 e2) ∧ wx.cell? ⟨b, 3, none⟩ = some (.int .u8 e3) ∧ wx.cell? ⟨b, 4, none⟩ = some (.int .u32 e4) ∧ wx.cell? ⟨b, 5, none⟩ = some (.int .u64 e5) ∧ wx.cell? ⟨b, 6, none⟩ = some (.int .u64 e6) ∧ wx.cell? ⟨b, 7, none⟩ = some (.int .i64 e7)) ∧ wx.cell? ⟨mp, 0, none⟩ = some (.slice (some ⟨g9, 0, none⟩) st.l.length cap9) ∧ wx.cell? ⟨kb, 0, none⟩ = some (.int .i64 i) ∧ wx.cell? ⟨g9, i * 6, none⟩ = some (.int .i64 e1) ∧ wx.cell? ⟨g9, i * 6 + 1, none⟩ = some (.int .i64 e6) ∧ wx.cell? ⟨g9, i * 6 + 2, none⟩ = some (.int .i64 e2) ∧ wx.cell? ⟨g9, i * 6 + 3, none⟩ = some (.int .i64 e7) ∧ wx.cell? ⟨g9, i * 6 + 4, none⟩ = some (.int .u8 e3) ∧ wx.cell? ⟨g9, i * 6 + 5, none⟩ = some (.int .u32 e4) := fun wx hx => by
      have key : ∀ q o, q < wc.heap.size → wx.cell? ⟨q, o, none⟩ = wc.cell? ⟨q, o, none⟩ := fun q o hq => World.cell?_of_block (w := wc) (a := ⟨q, o, none⟩) (hx.block q hq)
      simp only [key b _ hbl, key mp _ hml, key kb _ hkl, key g9 _ hgl9]
      exact HSE9.out.2
    have HS := Lib.hid HS0
    clear HS0 hmb9 hmo9 hgc9 hi hfe how hhh hee ha hmi hse h8 qm0 qk qo hsm
    go_upto_region 36 with (fail)
    refine wp_region_pl (fun wx => (wx.cell? ⟨b, 0, none⟩ = some (.int .u64 e0) ∧ wx.cell? ⟨b, 1, none⟩ = some (.int .u64 e1) ∧ wx.cell? ⟨b, 2, none⟩ = some (.int .i64 e2) ∧ wx.cell? ⟨b, 3, none⟩ = some (.int .u8 e3) ∧ wx.cell? ⟨b, 4, none⟩ = some (.int .u32 e4) ∧ wx.cell? ⟨b, 5, none⟩ = some (.int .u64 e5) ∧ wx.cell? ⟨b, 6, none⟩ = some (.int .u64 e6) ∧ wx.cell? ⟨b, 7, none⟩ = some (.int .i64 e7)) ∧ wx.cell? ⟨mp, 0, none⟩ = some (.slice (some ⟨g9, 0, none⟩) st.l.length cap9) ∧ wx.cell? ⟨kb, 0, none⟩ = some (.int .i64 i) ∧ wx.cell? ⟨g9, i * 6, none⟩ = some (.int .i64 e1) ∧ wx.cell? ⟨g9, i * 6 + 1, none⟩ = some (.int .i64 e6) ∧ wx.cell? ⟨g9, i * 6 + 2, none⟩ = some (.int .i64 e2) ∧ wx.cell? ⟨g9, i * 6 + 3, none⟩ = some (.int .i64 e7) ∧ wx.cell? ⟨g9, i * 6 + 4, none⟩ = some (.int .u8 e3) ∧ wx.cell? ⟨g9, i * 6 + 5, none⟩ = some (.int .u32 e4)) 15 (.pure 0 (.pure 1 (.pure 2 (.pure 3 (.pure 5 (.pure 6 (.pure 7 (.pure 8 (.pure 9 (.pure 10 (.pure 11 (.act 4 (.act 12 (.act 13 (.pure 14 (.pure 15 .done)) .stop) .stop) (.act 12 (.act 4 (.act 13 (.pure 14 (.pure 15 .done)) .stop) .stop) .stop))))))))))))) (by kernel_rfl) (by kernel_rfl) (fun c a d v w h => by cases d <;> exact h) (HS.out _ (Below.refl _ _).drew) ?_
    repeat (first | (refine wpPl_skip rfl rfl ?_; simp only [Act.put, List.setIfInBounds_toArray, List.set_cons_succ, List.set_cons_zero]) | (refine wpPl_pure rfl rfl ?_; apply Exists.intro; refine ⟨fun wq => ?_, ?_⟩; (go_simp <;> rfl); simp only [Act.put, List.setIfInBounds_toArray, List.set_cons_succ, List.set_cons_zero]) | (refine wpPl_read rfl rfl (by decide) ?_; apply Exists.intro; refine ⟨fun wq hq => ?_, ?_⟩; (go_simp <;> rfl); simp only [Act.put, List.setIfInBounds_toArray, List.set_cons_succ, List.set_cons_zero]))
    refine wpPl_act rfl (by decide) (fun K hK => ?_) ?_
    · go_wp2_with fail
      refine hK _ _ ?_ (fun hS => ?_)
      all_goals (clear hK K)
      · exact HS.out _ (((Below.refl _ _).alloc (Nat.le_refl _) _).drew)
      refine wpPl_act rfl (by decide) (fun K hK => ?_) wpPl_stop
      go_wp2_with fail
      refine hK _ _ ?_ (fun hS => ?_)
      all_goals (clear hK K)
      · exact HS.out _ ((((Below.refl _ _).alloc (Nat.le_refl _) _).alloc (by simp) _).drew)
      have hr1 : Rd ((wc.alloc (.cells #[.int .u64 e0, .int .u64 e1, .int .i64 e2, .int .u8 e3, .int .u32 e4, .int .u64 e5, .int .u64 e6, .int .i64 e7] 35)).alloc (.cells #[.int .i64 e1, .int .i64 e6, .int .i64 e2, .int .i64 e7, .int .u8 e3, .int .u32 e4] 59)) 8 (.slice (some ⟨wc.heap.size, 0, none⟩) 1 1) 1 (entCells [(⟨⟨e0, e1⟩, e2, e3, e4, ⟨e5, e6⟩, e7⟩ : Ent)]) := (Rd.new wc 8 _ 35 1 1 rfl (Nat.le_refl _)).same (by simp) (fun q hq => Below.heap_alloc _ _ _ (by simp [Value.ownBlock] at hq; subst hq; simp))
      have hr2 : Rd ((wc.alloc (.cells #[.int .u64 e0, .int .u64 e1, .int .i64 e2, .int .u8 e3, .int .u32 e4, .int .u64 e5, .int .u64 e6, .int .i64 e7] 35)).alloc (.cells #[.int .i64 e1, .int .i64 e6, .int .i64 e2, .int .i64 e7, .int .u8 e3, .int .u32 e4] 59)) 6 (.slice (some ⟨wc.heap.size + 1, 0, none⟩) 1 1) 1 (oneCells (ones [(⟨⟨e0, e1⟩, e2, e3, e4, ⟨e5, e6⟩, e7⟩ : Ent)])) := by
        have := Rd.new (wc.alloc (.cells #[.int .u64 e0, .int .u64 e1, .int .i64 e2, .int .u8 e3, .int .u32 e4, .int .u64 e5, .int .u64 e6, .int .i64 e7] 35)) 6 [.int .i64 e1, .int .i64 e6, .int .i64 e2, .int .i64 e7, .int .u8 e3, .int .u32 e4] 59 1 1 rfl (Nat.le_refl _)
        simpa [oneCells, ones, One.of, One.cells] using this
      have hsame := same_any [(⟨⟨e0, e1⟩, e2, e3, e4, ⟨e5, e6⟩, e7⟩ : Ent)] HSM.out (by simp) (hr1.drewN 1) (hr2.drewN 1)
      have HSA := Lib.hid hsame
      clear hr1 hr2 hsame
      refine wpPl_act rfl (by decide) (fun K hK => ?_) wpPl_stop
      go_wp2_with (go_at_call 24; go_must (refine HSA.out.mono ?_); rintro ex w10 ⟨rfl, hb10⟩; have B10 := Lib.hid (Below.trans ((((Below.refl wc.heap.size wc).alloc (Nat.le_refl _) _).alloc (by simp) _).drew) (hb10.mono (by simp; omega))); clear hb10)
      refine hK _ _ ?_ (fun hS => ?_)
      all_goals (clear hK K)
      · exact HS.out _ B10.out
      repeat (first | (refine wpPl_skip rfl rfl ?_; simp only [Act.put, List.setIfInBounds_toArray, List.set_cons_succ, List.set_cons_zero]) | (refine wpPl_pure rfl rfl ?_; apply Exists.intro; refine ⟨fun wq => ?_, ?_⟩; (go_simp <;> rfl); simp only [Act.put, List.setIfInBounds_toArray, List.set_cons_succ, List.set_cons_zero]) | (refine wpPl_read rfl rfl (by decide) ?_; apply Exists.intro; refine ⟨fun wq hq => ?_, ?_⟩; (go_simp <;> rfl); simp only [Act.put, List.setIfInBounds_toArray, List.set_cons_succ, List.set_cons_zero]))
      refine wpPl_done ?_
      have hbx := HW.out.2.trans (B10.out.mono HW.out.2.size)
      have HBX := Lib.hid hbx
      clear hbx hS
      go_wp2
      go_ret
      exact ⟨rfl, st, HI.out.mono (by omega), HFM.out.1.below HBX.out, HFM.out.2.below HBX.out, fun hB => (HSE.out.same HBX.out).bl.mono hB, fun A hA _ _ _ _ => (HSE.out.same HBX.out).bl.block A hA⟩
    · refine wpPl_act rfl (by decide) (fun K hK => ?_) wpPl_stop
      go_wp2_with fail
      refine hK _ _ ?_ (fun hS => ?_)
      all_goals (clear hK K)
      · exact HS.out _ (((Below.refl _ _).alloc (Nat.le_refl _) _).drew)
      refine wpPl_act rfl (by decide) (fun K hK => ?_) wpPl_stop
      go_wp2_with fail
      refine hK _ _ ?_ (fun hS => ?_)
      all_goals (clear hK K)
      · exact HS.out _ ((((Below.refl _ _).alloc (Nat.le_refl _) _).alloc (by simp) _).drew)
      have hr1 : Rd ((wc.alloc (.cells #[.int .i64 e1, .int .i64 e6, .int .i64 e2, .int .i64 e7, .int .u8 e3, .int .u32 e4] 59)).alloc (.cells #[.int .u64 e0, .int .u64 e1, .int .i64 e2, .int .u8 e3, .int .u32 e4, .int .u64 e5, .int .u64 e6, .int .i64 e7] 35)) 8 (.slice (some ⟨wc.heap.size + 1, 0, none⟩) 1 1) 1 (entCells [(⟨⟨e0, e1⟩, e2, e3, e4, ⟨e5, e6⟩, e7⟩ : Ent)]) := by
        have := Rd.new (wc.alloc (.cells #[.int .i64 e1, .int .i64 e6, .int .i64 e2, .int .i64 e7, .int .u8 e3, .int .u32 e4] 59)) 8 (Ent.cells ⟨⟨e0, e1⟩, e2, e3, e4, ⟨e5, e6⟩, e7⟩) 35 1 1 rfl (Nat.le_refl _)
        simpa [entCells, Ent.cells] using this
      have hr2 : Rd ((wc.alloc (.cells #[.int .i64 e1, .int .i64 e6, .int .i64 e2, .int .i64 e7, .int .u8 e3, .int .u32 e4] 59)).alloc (.cells #[.int .u64 e0, .int .u64 e1, .int .i64 e2, .int .u8 e3, .int .u32 e4, .int .u64 e5, .int .u64 e6, .int .i64 e7] 35)) 6 (.slice (some ⟨wc.heap.size, 0, none⟩) 1 1) 1 (oneCells (ones [(⟨⟨e0, e1⟩, e2, e3, e4, ⟨e5, e6⟩, e7⟩ : Ent)])) := by
        have := (Rd.new wc 6 [.int .i64 e1, .int .i64 e6, .int .i64 e2, .int .i64 e7, .int .u8 e3, .int .u32 e4] 59 1 1 rfl (Nat.le_refl _)).same (w' := ((wc.alloc (.cells #[.int .i64 e1, .int .i64 e6, .int .i64 e2, .int .i64 e7, .int .u8 e3, .int .u32 e4] 59)).alloc (.cells #[.int .u64 e0, .int .u64 e1, .int .i64 e2, .int .u8 e3, .int .u32 e4, .int .u64 e5, .int .u64 e6, .int .i64 e7] 35))) (by simp) (fun q hq => Below.heap_alloc _ _ _ (by simp [Value.ownBlock] at hq; subst hq; simp))
        simpa [oneCells, ones, One.of, One.cells] using this
      have hsame := same_any [(⟨⟨e0, e1⟩, e2, e3, e4, ⟨e5, e6⟩, e7⟩ : Ent)] HSM.out (by simp) (hr1.drewN 1) (hr2.drewN 1)
      have HSA := Lib.hid hsame
      clear hr1 hr2 hsame
      refine wpPl_act rfl (by decide) (fun K hK => ?_) wpPl_stop
      go_wp2_with (go_at_call 24; go_must (refine HSA.out.mono ?_); rintro ex w10 ⟨rfl, hb10⟩; have B10 := Lib.hid (Below.trans ((((Below.refl wc.heap.size wc).alloc (Nat.le_refl _) _).alloc (by simp) _).drew) (hb10.mono (by simp; omega))); clear hb10)
      refine hK _ _ ?_ (fun hS => ?_)
      all_goals (clear hK K)
      · exact HS.out _ B10.out
      repeat (first | (refine wpPl_skip rfl rfl ?_; simp only [Act.put, List.setIfInBounds_toArray, List.set_cons_succ, List.set_cons_zero]) | (refine wpPl_pure rfl rfl ?_; apply Exists.intro; refine ⟨fun wq => ?_, ?_⟩; (go_simp <;> rfl); simp only [Act.put, List.setIfInBounds_toArray, List.set_cons_succ, List.set_cons_zero]) | (refine wpPl_read rfl rfl (by decide) ?_; apply Exists.intro; refine ⟨fun wq hq => ?_, ?_⟩; (go_simp <;> rfl); simp only [Act.put, List.setIfInBounds_toArray, List.set_cons_succ, List.set_cons_zero]))
      refine wpPl_done ?_
      have hbx := HW.out.2.trans (B10.out.mono HW.out.2.size)
      have HBX := Lib.hid hbx
      clear hbx hS
      go_wp2
      go_ret
      exact ⟨rfl, st, HI.out.mono (by omega), HFM.out.1.below HBX.out, HFM.out.2.below HBX.out, fun hB => (HSE.out.same HBX.out).bl.mono hB, fun A hA _ _ _ _ => (HSE.out.same HBX.out).bl.block A hA⟩
  · rw [hmi]
    simp only [Ent.zero, Ent.mk.injEq, Hd.mk.injEq] at hez
    obtain ⟨⟨rfl, rfl⟩, rfl, rfl, rfl, ⟨rfl, rfl⟩, rfl⟩ := hez
    subst hx7
    clear hmi
    go_wp2
    go_ret
    exact ⟨rfl, st, HI.out.mono (by omega), HFM.out.1.below HW.out.2, HFM.out.2.below HW.out.2, fun hB => (HSE.out.same HW.out.2).bl.mono hB, fun A hA _ _ _ _ => (HSE.out.same HW.out.2).bl.block A hA⟩
end
end Go.Proofs.Ytoeeobebkalglaa
