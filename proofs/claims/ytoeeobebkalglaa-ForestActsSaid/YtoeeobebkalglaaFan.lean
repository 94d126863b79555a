/- Walks of the law's own model: Clone, take. -/
import Derived.Test.YtoeeobebkalglaaFam
namespace Go.Proofs.Ytoeeobebkalglaa
open Go.RowKit Go.Ease

/-- The model at mp. -/
structure Mo (w : World) (mp base : Nat) (l : List One) (next : Int) : Prop where
  lt : mp < base
  le : base ≤ w.heap.size
  ex : ∃ sa cap, w.heap[mp]? = some (.cells #[.slice sa l.length cap, .int .i64 next] 56 (0, 0)) ∧ w.ownsRow base 59 6 (.slice sa l.length cap) l.length (oneCells l)

theorem Mo.same {w w' : World} {mp base : Nat} {l : List One} {next : Int} (h : Mo w mp base l next) (hs : w.heap.size ≤ w'.heap.size) (hb : ∀ k, (k = mp ∨ base ≤ k) → k < w.heap.size → w'.heap[k]? = w.heap[k]?) : Mo w' mp base l next := by
  obtain ⟨h1, h2, sa, cap, h3, h4⟩ := h
  exact ⟨h1, by omega, sa, cap, (hb mp (.inl rfl) (by omega)).trans h3, owns_same h4 (fun g hg => hb g (.inr (h4.lt g hg).1) (h4.lt g hg).2)⟩

theorem Mo.below {w w' : World} {mp base : Nat} {l : List One} {next : Int} (h : Mo w mp base l next) (hb : Below w.heap.size w w') : Mo w' mp base l next :=
  h.same hb.size (fun k _ hk => hb.block k hk)

theorem Mo.stp {w w' : World} {mp base p mb : Nat} {l : List One} {next : Int} (h : Mo w mp base l next) (hs : Stp (FS.F p mb) w w' (FS.F p mb)) (hp : p < base ∧ mb < base ∧ p ≠ mp ∧ mb ≠ mp) : Mo w' mp base l next :=
  h.same hs.size (fun k hk hkl => hs.block k hkl (fun hf => by
    obtain ⟨h1, h2, h3, h4⟩ := hp
    rcases hf with rfl | rfl <;> rcases hk with rfl | hk <;> omega))

section
set_option maxHeartbeats 1000000
theorem cloneOne_nil (w : World) :
    Calls Try.prog 37 #[.slice none 0 0] w fun e w' => e = .returned (.slice none 0 0) ∧ w = w' := by
  have hn := fun wx a n c n' c' => Lib.run_eql_slice_nil (P := Try.prog) wx 54 59 a n c n' c' Try.underlying54
  go_enter Try.func37, Try.ntmps37
  go_wp2
  go_ret
  exact ⟨rfl, rfl⟩

theorem cloneOne_some (w : World) (g off n cap : Nat) (xs : List Value) (hl : xs.length = n * 6) (hg : g < w.heap.size) (hc : ∀ j u, xs[j]? = some u → w.cell? ⟨g, off + j, none⟩ = some u) (h1 : ∀ u ∈ xs, u.oneCell' = true)
    (hb : n ≤ 1000000) :
    Calls Try.prog 37 #[.slice (some ⟨g, off, none⟩) n cap] w fun e w' => ∃ v, e = .returned v ∧ w'.ownsRow w.heap.size 59 6 v n xs ∧ Below w.heap.size w w' := by
  obtain ⟨i0, hi, hz0, hz1, hz2⟩ := info_parts info_one
  have hown : (w.alloc (.cells #[] 59)).ownsRow w.heap.size 59 6 (.slice (some ⟨w.heap.size, 0, none⟩) 0 0) 0 [] :=
    World.ownsRow_made w #[] 0 (Nat.le_refl _) (by unfold maxLen; omega) rfl
  have hnews : ∀ j u, xs[j]? = some u → (w.alloc (.cells #[] 59)).cell? ((⟨g, off, none⟩ : Addr).add j) = some u := fun j u hu => by
    rw [addr_add, World.cell?_alloc_lt (a := ⟨g, off + j, none⟩) w _ hg]
    exact hc j u hu
  have hn := fun wx a n c n' c' => Lib.run_eql_slice_nil (P := Try.prog) wx 54 59 a n c n' c' Try.underlying54
  go_enter Try.func37, Try.ntmps37
  go_wp2_with (at_builtin; refine wpList_append_own _ rfl (.tmp 5) (.tmp 6) 54 rfl w.heap.size 59 i0 (.agg #[.int .i64 0, .int .i64 0, .int .i64 0, .int .i64 0, .int .u8 0, .int .u32 0]) 6 40 Try.underlying54 hi hz0 hz1 hz2 rfl (by decide) _ 0 [] rfl hown ⟨g, off, none⟩ n cap xs rfl hl hnews h1 ?c3 ?c4 ?c5 ?_)
  case c3 => unfold maxLen; omega
  case c4 => omega
  case c5 => simp
  intro v' w1 hown1 hgrow _
  try simp only [Nat.zero_add, List.nil_append] at hown1
  have hb1 : Below w.heap.size w w1 := ((Below.refl _ _).alloc (Nat.le_refl _) _).grown hgrow (by simp) (by intro k hk; simp [Value.ownBlock] at hk; omega)
  go_wp2
  go_ret
  exact ⟨_, rfl, hown1, hb1⟩

theorem cloneOne_any {w : World} {v : Value} {n : Nat} {xs : List Value} (h : Rd w 6 v n xs) (h1 : ∀ u ∈ xs, u.oneCell' = true) (hb : n ≤ 1000000) :
    Calls Try.prog 37 #[v] w fun e w' => ∃ a c, e = .returned (.slice a n c) ∧ w'.ownsRow w.heap.size 59 6 (.slice a n c) n xs ∧ Below w.heap.size w w' := by
  rcases h.2 with ⟨rfl, rfl⟩ | ⟨g, off, cap, rfl, _, hlt, hc⟩
  · have hx : xs = [] := List.eq_nil_of_length_eq_zero (by simpa using h.1)
    subst hx
    refine (cloneOne_nil w).mono ?_
    rintro e w' ⟨rfl, rfl⟩
    exact ⟨_, _, rfl, World.ownsRow_nil _ _ _ _, Below.refl _ _⟩
  · refine (cloneOne_some w g off n cap xs h.1 hlt hc h1 hb).mono ?_
    rintro e w' ⟨v, rfl, ho, hbl⟩
    obtain ⟨a, c, rfl⟩ := owns_shape ho
    exact ⟨_, _, rfl, ho, hbl⟩

/-- What take's loop has done. -/
def TakeRel (w : World) (l : List One) (pr : One → Bool) (gv rv i : Value) (wr : World) : Prop :=
  ∃ (k : Nat) (ga : Option Addr) (gc : Nat) (ra : Option Addr) (rc : Nat), k ≤ l.length ∧ i = .int .i64 k ∧ gv = .slice ga ((l.take k).filter pr).length gc ∧ rv = .slice ra ((l.take k).filter (fun x => !pr x)).length rc ∧
    wr.ownsRow w.heap.size 59 6 (.slice ga ((l.take k).filter pr).length gc) ((l.take k).filter pr).length (oneCells ((l.take k).filter pr)) ∧
    wr.ownsRow w.heap.size 59 6 (.slice ra ((l.take k).filter (fun x => !pr x)).length rc) ((l.take k).filter (fun x => !pr x)).length (oneCells ((l.take k).filter (fun x => !pr x))) ∧
    (∀ q, (Value.slice ga ((l.take k).filter pr).length gc).ownBlock = some q → (Value.slice ra ((l.take k).filter (fun x => !pr x)).length rc).ownBlock ≠ some q) ∧ Below w.heap.size w wr

theorem filter_snoc_pos {α : Type} (p : α → Bool) (l : List α) (k : Nat) (x : α) (hk : l[k]? = some x) (hp : p x = true) : (l.take (k + 1)).filter p = (l.take k).filter p ++ [x] := by
  obtain ⟨hlt, he⟩ := List.getElem?_eq_some_iff.1 hk
  rw [List.take_succ_eq_append_getElem hlt, he, List.filter_append, List.filter_cons_of_pos hp, List.filter_nil]
theorem filter_snoc_neg {α : Type} (p : α → Bool) (l : List α) (k : Nat) (x : α) (hk : l[k]? = some x) (hp : p x = false) : (l.take (k + 1)).filter p = (l.take k).filter p := by
  obtain ⟨hlt, he⟩ := List.getElem?_eq_some_iff.1 hk
  rw [List.take_succ_eq_append_getElem hlt, he, List.filter_append, List.filter_cons_of_neg (by rw [hp]; decide), List.filter_nil, List.append_nil]
theorem take_len {α : Type} (p : α → Bool) (l : List α) (k : Nat) (h : l.length ≤ 1000000) : ((l.take k).filter p).length ≤ 1000000 := by
  have h1 := List.length_filter_le p (l.take k)
  have h2 := List.length_take_le k l
  rw [List.length_take] at h1
  omega

set_option maxRecDepth 100000 in
theorem take_any {w : World} {mp base : Nat} {l : List One} {next : Int} (hm : Mo w mp base l next) (hl : l.length ≤ 1000000) (g : Nat) (cb : Array Value) (pr : One → Bool)
    (eg : ∀ args w, (callFunc g args).run Try.prog w = .ok (.enter g args) w) (hcall : OneOn w l g cb pr) :
    Calls Try.prog 38 #[.pointer (some ⟨mp, 0, none⟩), .func (.func g) #[] cb] w fun e w' => ∃ ga gc, e = .returned (.slice ga (l.filter pr).length gc) ∧ Rd w' 6 (.slice ga (l.filter pr).length gc) (l.filter pr).length (oneCells (l.filter pr)) ∧
      Mo w' mp base (l.filter (fun x => !pr x)) next ∧ Stp (fun k => k = mp) w w' (fun k => k = mp) := by
  obtain ⟨hlt, hle, sa, cap, hb0, hw0⟩ := hm
  obtain ⟨i0, hi, hz0, hz1, hz2⟩ := info_parts info_one
  have HIN := Lib.hid (And.intro hi (And.intro hz0 (And.intro hz1 hz2)))
  have hm0 : w.cell? ⟨mp, 0, none⟩ = some (.slice sa l.length cap) := by rw [cell_of_row w mp _ _ _ _ hb0]; rfl
  have hrd := Rd.of_owns hw0
  have HB0 := Lib.hid (And.intro hb0 hw0)
  have HC := Lib.hid hcall
  have HV := Lib.hid hrd
  clear hi hz0 hz1 hz2 hb0 hw0 hcall hrd
  go_enter Try.func38, Try.ntmps38
  go_wp2_with fail
  go_loopw [5, 6, 14] (fun gv rv i wr => TakeRel w l pr gv rv i wr) (fun _ _ i _ => l.length - (intOf i).toNat)
  case atStart => exact ⟨0, none, 0, none, 0, Nat.zero_le _, rfl, rfl, rfl, World.ownsRow_nil _ _ _ _, World.ownsRow_nil _ _ _ _, (fun q hq => by simp [Value.ownBlock] at hq), Below.refl _ _⟩
  case round =>
    obtain ⟨k, ga, gc, ra, rc, hk, rfl, rfl, rfl, hg, hr, hgr, hb⟩ := hrel
    by_cases hkl : k < l.length
    · obtain ⟨x, hx⟩ : ∃ x, l[k]? = some x := ⟨l[k], List.getElem?_eq_getElem hkl⟩
      rcases HV.out.2 with ⟨_, h0⟩ | ⟨g0, off, cap', he, _, hgl, hcc⟩
      · omega
      cases he
      have h6 := one_cells hcc hx
      obtain ⟨c0, c1, c2, c3, c4, c5⟩ : wr.cell? ⟨g0, off + k * 6, none⟩ = some (.int .i64 x.n) ∧ wr.cell? ⟨g0, off + k * 6 + 1, none⟩ = some (.int .i64 x.par) ∧ wr.cell? ⟨g0, off + k * 6 + 2, none⟩ = some (.int .i64 x.obj) ∧ wr.cell? ⟨g0, off + k * 6 + 3, none⟩ = some (.int .i64 x.ord) ∧
          wr.cell? ⟨g0, off + k * 6 + 4, none⟩ = some (.int .u8 x.rts) ∧ wr.cell? ⟨g0, off + k * 6 + 5, none⟩ = some (.int .u32 x.own) := by
        refine ⟨?_, ?_, ?_, ?_, ?_, ?_⟩ <;> (rw [World.cell?_of_block (w := w) (hb.block g0 hgl)])
        · exact h6.1
        · exact h6.2.1
        · exact h6.2.2.1
        · exact h6.2.2.2.1
        · exact h6.2.2.2.2.1
        · exact h6.2.2.2.2.2
      have hsz := hb.size
      have hc := HC.out x (List.mem_of_getElem? hx) _ (hb.alloc hsz (.cells #[.int .i64 x.n, .int .i64 x.par, .int .i64 x.obj, .int .i64 x.ord, .int .u8 x.rts, .int .u32 x.own] 59))
      generalize hq : pr x = q at hc
      have hs1 : q = true → (l.take (k + 1)).filter pr = (l.take k).filter pr ++ [x] ∧ (l.take (k + 1)).filter (fun x => !pr x) = (l.take k).filter (fun x => !pr x) := fun h => ⟨filter_snoc_pos _ _ _ _ hx (hq.trans h), filter_snoc_neg _ _ _ _ hx (by rw [hq, h]; rfl)⟩
      have hs2 : q = false → (l.take (k + 1)).filter pr = (l.take k).filter pr ∧ (l.take (k + 1)).filter (fun x => !pr x) = (l.take k).filter (fun x => !pr x) ++ [x] := fun h => ⟨filter_snoc_neg _ _ _ _ hx (hq.trans h), filter_snoc_pos _ _ _ _ hx (by rw [hq, h]; rfl)⟩
      have hn1 := take_len pr l k hl
      have hn2 := take_len (fun x => !pr x) l k hl
      generalize (l.take k).filter pr = G at *
      generalize (l.take k).filter (fun x => !pr x) = R at *
      have hg1 := fun q hq => (hg.lt q hq)
      have hr1 := fun q hq => (hr.lt q hq)
      have HB := Lib.hid (And.intro hb (And.intro hg (And.intro hr (And.intro hgr (And.intro hg1 hr1)))))
      have HS := Lib.hid (And.intro hs1 hs2)
      have HNN := Lib.hid (And.intro hn1 hn2)
      obtain ⟨x0, x1, x2, x3, x4, x5⟩ := x
      simp only [One.v, One.cells] at hc c0 c1 c2 c3 c4 c5
      have HC1 := Lib.hid hc
      clear hb hg hr hgr hx hq hcc h6 hc hs1 hs2 hn1 hn2 hg1 hr1
      cases q with
      | true =>
        go_wp2_with (first | (go_at_fn g; go_must (refine HC1.out.mono ?_); rintro ex w2 ⟨rfl, hb2⟩; have HB2 := Lib.hid hb2; have hz2 : wr.heap.size + 1 ≤ w2.heap.size := (by have := hb2.size; simpa using this); have h8 := six_cells (below_block hb2 (heap_alloc_new wr (.cells #[.int .i64 x0, .int .i64 x1, .int .i64 x2, .int .i64 x3, .int .u8 x4, .int .u32 x5] 59))); have hw2 := owns_same (HB.out.2.1.alloc (.cells #[.int .i64 x0, .int .i64 x1, .int .i64 x2, .int .i64 x3, .int .u8 x4, .int .u32 x5] 59)) (fun q hq => hb2.block q (by have := (HB.out.2.2.2.2.1 q hq).2; simp; omega)); have HW2 := Lib.hid hw2; clear hb2 hw2; obtain ⟨d0, d1, d2, d3, d4, d5⟩ := h8) | (at_builtin; go_must (refine wpList_append2 _ rfl (.tmp 21) (.tmp 23) 54 rfl w.heap.size 59 i0 (.agg #[.int .i64 0, .int .i64 0, .int .i64 0, .int .i64 0, .int .u8 0, .int .u32 0]) 6 40 Try.underlying54 HIN.out.1 HIN.out.2.1 HIN.out.2.2.1 HIN.out.2.2.2 rfl (by decide) (.slice ga G.length gc) G.length (oneCells G) rfl (by exact HW2.out.alloc _) _ 1 [.int .i64 x0, .int .i64 x1, .int .i64 x2, .int .i64 x3, .int .u8 x4, .int .u32 x5] rfl (by exact Rd.new w2 6 [.int .i64 x0, .int .i64 x1, .int .i64 x2, .int .i64 x3, .int .u8 x4, .int .u32 x5] 59 1 1 rfl (Nat.le_refl _)) (by simp [Value.oneCell']) (by have := HNN.out; unfold maxLen; omega) (by have := HNN.out; omega) (by simp; omega) ?_); intro a' c' w5 ho5 hg5 hb5; have HG5 := Lib.hid (And.intro ho5 (And.intro hg5 hb5)); clear ho5 hg5 hb5))
        obtain ⟨hb, hg, hr, hgr, hg1, hr1⟩ := HB.out
        obtain ⟨ho5, hg5, hb5⟩ := HG5.out
        have hz5 := hg5.size
        simp only [World.size_alloc] at hz5
        have hblk : ∀ j, j < wr.heap.size → (Value.slice ga G.length gc).ownBlock ≠ some j → w5.heap[j]? = wr.heap[j]? := fun j hj hn => by
          rw [hg5.block j (by simp; omega) (fun e => hn e.symm), Below.heap_alloc _ _ _ (by omega), HB2.out.block j (by simp; omega), Below.heap_alloc _ _ _ hj]
        obtain ⟨s1, s2⟩ := HS.out.1 (by first | rfl | trivial)
        go_roundw
        case measure => simp [intOf]; omega
        case rel =>
          refine ⟨k + 1, a', c', ra, rc, by omega, by go_num, by rw [s1, List.length_append]; rfl, by rw [s2], ?_, ?_, ?_, ?_⟩
          · rw [s1, List.length_append, oneCells_snoc]; exact ho5
          · rw [s2]; exact owns_same hr (fun q hq => hblk q (hr1 q hq).2 (fun e => hgr q e hq))
          · rw [s1, s2, List.length_append]
            intro q hq hq2
            rcases hb5 with hb5 | hb5
            · rw [show (G.length + [(⟨x0, x1, x2, x3, x4, x5⟩ : One)].length) = G.length + 1 from rfl, hb5] at hq
              exact hgr q hq hq2
            · rw [show (G.length + [(⟨x0, x1, x2, x3, x4, x5⟩ : One)].length) = G.length + 1 from rfl, hb5] at hq
              simp only [Option.some.injEq, World.size_alloc] at hq
              have := (hr1 q hq2).2
              omega
          · exact ⟨hg5.os.trans (HB2.out.os.trans hb.os), hg5.tape.trans (HB2.out.tape.trans hb.tape), hg5.output.trans (HB2.out.output.trans hb.output), by omega, fun j hj => (hblk j (by omega) (fun e => by have := (hg1 j e).1; omega)).trans (hb.block j hj)⟩
      | false =>
        go_wp2_with (first | (go_at_fn g; go_must (refine HC1.out.mono ?_); rintro ex w2 ⟨rfl, hb2⟩; have HB2 := Lib.hid hb2; have hz2 : wr.heap.size + 1 ≤ w2.heap.size := (by have := hb2.size; simpa using this); have h8 := six_cells (below_block hb2 (heap_alloc_new wr (.cells #[.int .i64 x0, .int .i64 x1, .int .i64 x2, .int .i64 x3, .int .u8 x4, .int .u32 x5] 59))); have hw2 := owns_same (HB.out.2.2.1.alloc (.cells #[.int .i64 x0, .int .i64 x1, .int .i64 x2, .int .i64 x3, .int .u8 x4, .int .u32 x5] 59)) (fun q hq => hb2.block q (by have := (HB.out.2.2.2.2.2 q hq).2; simp; omega)); have HW2 := Lib.hid hw2; clear hb2 hw2; obtain ⟨d0, d1, d2, d3, d4, d5⟩ := h8) | (at_builtin; go_must (refine wpList_append2 _ rfl (.tmp 25) (.tmp 27) 54 rfl w.heap.size 59 i0 (.agg #[.int .i64 0, .int .i64 0, .int .i64 0, .int .i64 0, .int .u8 0, .int .u32 0]) 6 40 Try.underlying54 HIN.out.1 HIN.out.2.1 HIN.out.2.2.1 HIN.out.2.2.2 rfl (by decide) (.slice ra R.length rc) R.length (oneCells R) rfl (by exact HW2.out.alloc _) _ 1 [.int .i64 x0, .int .i64 x1, .int .i64 x2, .int .i64 x3, .int .u8 x4, .int .u32 x5] rfl (by exact Rd.new w2 6 [.int .i64 x0, .int .i64 x1, .int .i64 x2, .int .i64 x3, .int .u8 x4, .int .u32 x5] 59 1 1 rfl (Nat.le_refl _)) (by simp [Value.oneCell']) (by have := HNN.out; unfold maxLen; omega) (by have := HNN.out; omega) (by simp; omega) ?_); intro a' c' w5 ho5 hg5 hb5; have HG5 := Lib.hid (And.intro ho5 (And.intro hg5 hb5)); clear ho5 hg5 hb5))
        obtain ⟨hb, hg, hr, hgr, hg1, hr1⟩ := HB.out
        obtain ⟨ho5, hg5, hb5⟩ := HG5.out
        have hz5 := hg5.size
        simp only [World.size_alloc] at hz5
        have hblk : ∀ j, j < wr.heap.size → (Value.slice ra R.length rc).ownBlock ≠ some j → w5.heap[j]? = wr.heap[j]? := fun j hj hn => by
          rw [hg5.block j (by simp; omega) (fun e => hn e.symm), Below.heap_alloc _ _ _ (by omega), HB2.out.block j (by simp; omega), Below.heap_alloc _ _ _ hj]
        obtain ⟨s1, s2⟩ := HS.out.2 (by first | rfl | trivial)
        go_roundw
        case measure => simp [intOf]; omega
        case rel =>
          refine ⟨k + 1, ga, gc, a', c', by omega, by go_num, by rw [s1], by rw [s2, List.length_append]; rfl, ?_, ?_, ?_, ?_⟩
          · rw [s1]; exact owns_same hg (fun q hq => hblk q (hg1 q hq).2 (fun e => hgr q hq e))
          · rw [s2, List.length_append, oneCells_snoc]; exact ho5
          · rw [s1, s2, List.length_append]
            intro q hq hq2
            rcases hb5 with hb5 | hb5
            · rw [show (R.length + [(⟨x0, x1, x2, x3, x4, x5⟩ : One)].length) = R.length + 1 from rfl, hb5] at hq2
              exact hgr q hq hq2
            · rw [show (R.length + [(⟨x0, x1, x2, x3, x4, x5⟩ : One)].length) = R.length + 1 from rfl, hb5] at hq2
              simp only [Option.some.injEq, World.size_alloc] at hq2
              have := (hg1 q hq).2
              omega
          · exact ⟨hg5.os.trans (HB2.out.os.trans hb.os), hg5.tape.trans (HB2.out.tape.trans hb.tape), hg5.output.trans (HB2.out.output.trans hb.output), by omega, fun j hj => (hblk j (by omega) (fun e => by have := (hr1 j e).1; omega)).trans (hb.block j hj)⟩
    · have hkk : k = l.length := by omega
      subst hkk
      rw [List.take_length] at hg hr hgr
      have hmr : wr.heap[mp]? = some (.cells #[.slice sa l.length cap, .int .i64 next] 56 (0, 0)) := (hb.block mp (by omega)).trans HB0.out.1
      have hfm := fun j => frozen_of_row wr mp j _ _ hmr
      have hcm : wr.cell? ⟨mp, 0, none⟩ = some (.slice sa l.length cap) := by rw [cell_of_row wr mp _ _ _ _ hmr]; rfl
      have hsz := hb.size
      have HB := Lib.hid (And.intro hb (And.intro hg (And.intro hr (And.intro hgr hmr))))
      clear hb hg hr hgr hmr
      rw [List.take_length]
      go_wp2_with fail
      go_ret
      obtain ⟨hb, hg, hr, hgr, hmr⟩ := HB.out
      have hset := heap_setCell_same wr mp 0 _ _ (.slice ra (l.filter (fun x => !pr x)).length rc) hmr
      simp only [List.setIfInBounds_toArray, List.set_cons_zero] at hset
      refine ⟨ga, gc, rfl, ?_, ⟨hlt, by simp; omega, ra, rc, hset, ?_⟩, ?_⟩
      · exact (Rd.of_owns hg).same (by simp) (fun q hq => heap_setCell_other _ _ _ _ (by have := (hg.lt q hq).1; simp; omega))
      · exact owns_base (owns_same hr (fun q hq => heap_setCell_other _ _ _ _ (by have := (hr.lt q hq).1; simp; omega))) hle
      · exact Stp.setCell (F := fun k => k = mp) (F' := fun k => k = mp) (Stp.of_below hb) (fun _ => rfl) _
end
end Go.Proofs.Ytoeeobebkalglaa
