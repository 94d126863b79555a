/- A walk of List, whatever is wanted: the entries that are wanted, as they were made. -/
import Derived.Test.YtoeeobebkalglaaFst
namespace Go.Ease
open Go.RowKit Go.ChangeMaps

theorem It.perm {P : Program} {k : TypeId} {w : World} {b r : Nat} {m t t' : List (Value × Value)} (h : It P k w b r m t) (hp : t.Perm t') : It P k w b r m t' := by
  obtain ⟨es, clock, since, seen, c0, h1, h2, h3, h4, h5, h6, h7, h8⟩ := h
  exact ⟨es, clock, since, seen, c0, h1, h2, h3, h4, h5, h6, h7, h8.trans hp⟩

theorem pairs_pick {todo : List Ent} {key v : Value} {t' : List (Value × Value)} (h : (pairs todo).Perm ((key, v) :: t')) : ∃ e todo', todo.Perm (e :: todo') ∧ key = e.h.v ∧ v = e.v ∧ t'.Perm (pairs todo') := by
  have hm : (key, v) ∈ pairs todo := h.mem_iff.2 (by simp)
  obtain ⟨e, he, hev⟩ := List.mem_map.1 hm
  simp only [Prod.mk.injEq] at hev
  obtain ⟨rfl, rfl⟩ := hev
  refine ⟨e, todo.erase e, List.perm_cons_erase he, rfl, rfl, ?_⟩
  have h2 : (pairs todo).Perm ((e.h.v, e.v) :: pairs (todo.erase e)) := (List.perm_cons_erase he).map _
  exact (h.symm.trans h2).cons_inv

theorem wpList_next_ent {P : Program} {k : TypeId} (w : World) {ops : Array Oper} {rest : List Oper} {o : Oper} {a : Act} {Q : Exit → Act → World → Prop} (hg : o.guard = none) (it : Operand) (hop : o.op = Op.next it false) (b r : Nat) (m : List (Value × Value)) (todo : List Ent)
    (hit : a.eval it = .pointer (some ⟨r, 0, none⟩)) (h : It P k w b r m (pairs todo)) (hne : r ≠ b)
    (hDone : todo = [] → wpList P ops Q rest (a.put o.dst (.tuple #[.bool false])) w)
    (hMore : ∀ e todo' w', todo.Perm (e :: todo') → It P k w' b r m (pairs todo') → w.grownBy w' (some r) → w'.heap.size = w.heap.size →
      (Instr.entry (.pointer (some ⟨r, 0, none⟩))).run P w' = .ok (.tuple #[e.h.v, e.v]) w' → wpList P ops Q rest (a.put o.dst (.tuple #[.bool true, e.h.v, e.v])) w') :
    wpList P ops Q (o :: rest) a w := by
  refine wpList_next_mp w hg it hop b r m (pairs todo) hit h hne (fun h0 => hDone (by simpa [pairs] using h0)) ?_
  intro key v todo' w1 ob h1 h2 h3 h4 h5
  obtain ⟨e, t', g1, rfl, rfl, g2⟩ := pairs_pick h1
  refine hMore e t' _ g1 (h4.perm g2) ?_ ?_ h5
  · rcases h3 with rfl | rfl
    · exact ⟨rfl, rfl, rfl, by simp [setBlock], fun i hi hne => by
        simp only [setBlock]; rw [Array.getElem?_setIfInBounds_ne (fun e => hne (by subst e; rfl))]⟩
    · exact ⟨rfl, rfl, rfl, by simp [setBlock], fun i hi hne => by
        simp only [setBlock]; rw [Array.getElem?_setIfInBounds_ne (fun e => hne (by subst e; rfl))]; rfl⟩
  · rcases h3 with rfl | rfl <;> simp [setBlock]

theorem eight_cells {w : World} {b : Nat} {c0 c1 c2 c3 c4 c5 c6 c7 : Value} {t : TypeId} (h : w.heap[b]? = some (.cells #[c0, c1, c2, c3, c4, c5, c6, c7] t (0, 0))) :
    w.cell? ⟨b, 0, none⟩ = some c0 ∧ w.cell? ⟨b, 1, none⟩ = some c1 ∧ w.cell? ⟨b, 2, none⟩ = some c2 ∧ w.cell? ⟨b, 3, none⟩ = some c3 ∧ w.cell? ⟨b, 4, none⟩ = some c4 ∧ w.cell? ⟨b, 5, none⟩ = some c5 ∧ w.cell? ⟨b, 6, none⟩ = some c6 ∧ w.cell? ⟨b, 7, none⟩ = some c7 := by
  refine ⟨?_, ?_, ?_, ?_, ?_, ?_, ?_, ?_⟩ <;> (rw [cell_of_row w b _ _ _ _ h]; rfl)

end Go.Ease
namespace Go.Proofs.Ytoeeobebkalglaa
open Go.RowKit Go.Ease

theorem info_ent : (Try.prog.info? 35).map (fun i => (i.zero, i.size, i.bytes)) = some (some (.agg #[.int .u64 0, .int .u64 0, .int .i64 0, .int .u8 0, .int .u32 0, .int .u64 0, .int .u64 0, .int .i64 0]), 8, 56) := by kernel_rfl

section
set_option maxHeartbeats 400000
theorem list_nil (fv : Value) (w : World) :
    Calls Try.prog 10 #[.pointer none, fv] w fun e w' => e = .returned (.slice none 0 0) ∧ w = w' := by
  go_enter Try.func10, Try.ntmps10
  go_wp2
  go_ret
  exact ⟨rfl, rfl⟩

/-- What List's loop has done. -/
def ListRel (w : World) (mb r : Nat) (st : FS) (pr : Ent → Bool) (v : Value) (wr : World) : Prop :=
  ∃ todo done sa cap, It Try.prog 30 wr mb r (pairs st.l) (pairs todo) ∧ (done ++ todo).Perm st.l ∧ v = .slice sa (done.filter pr).length cap ∧
    wr.ownsRow (w.heap.size + 1) 35 8 (.slice sa (done.filter pr).length cap) (done.filter pr).length (entCells (done.filter pr)) ∧ Below w.heap.size w wr ∧ w.heap.size < wr.heap.size

/-- What a predicate's closure does. -/
def PredOn (w : World) (l : List Ent) (g : Nat) (cb : Array Value) (pr : Ent → Bool) : Prop :=
  ∀ e ∈ l, ∀ wx, Below w.heap.size w wx → Calls Try.prog g (#[e.v] ++ cb) wx fun ex w' => ex = .returned (.bool (pr e)) ∧ Below wx.heap.size wx w'

set_option maxRecDepth 100000 in
theorem list_any {w : World} {p mb : Nat} {st : FS} (h : Fo w p mb st) (hO : st.Ok) (g : Nat) (cb : Array Value) (pr : Ent → Bool) (eg : ∀ args w, (callFunc g args).run Try.prog w = .ok (.enter g args) w)
    (hcall : PredOn w st.l g cb pr) :
    Calls Try.prog 10 #[.pointer (some ⟨p, 0, none⟩), .func (.func g) #[] cb] w fun e w' => ∃ sa cap, e = .returned (.slice sa (st.l.filter pr).length cap) ∧ Below w.heap.size w w' ∧ Rd w' 8 (.slice sa (st.l.filter pr).length cap) (st.l.filter pr).length (entCells (st.l.filter pr)) ∧ ∀ k, (Value.slice sa (st.l.filter pr).length cap).ownBlock = some k → w.heap.size ≤ k := by
  obtain ⟨p0, p1, pf⟩ := h.cellp
  obtain ⟨i0, hi, hz0, hz1, hz2⟩ := info_parts info_ent
  have HIN := Lib.hid (And.intro hi (And.intro hz0 (And.intro hz1 hz2)))
  have HF := Lib.hid h
  have HO := Lib.hid hO
  have HC := Lib.hid hcall
  have hlm := h.mp.lt
  clear h hO hcall hi hz0 hz1 hz2
  go_enter Try.func10, Try.ntmps10
  go_wp2_with (at_range; refine wpList_range_mp _ rfl _ 62 rfl _ Try.underlying62 mb (pairs st.l) rfl HF.out.mp ?_; intro ob hit0)
  go_frame
  have HI0 := Lib.hid hit0
  clear hit0
  go_loopw [5] (fun v wr => ListRel w mb w.heap.size st pr v wr) (fun _ wr => wr.rangeLeft mb w.heap.size)
  case atStart =>
    exact ⟨st.l, [], none, 0, HI0.out, by simp, rfl, ⟨by simp [entCells], .inl ⟨rfl, rfl⟩⟩, (Below.refl _ _).alloc (Nat.le_refl _) _, by simp⟩
  case round =>
    obtain ⟨todo, done, sa, cap, hit, hpm, rfl, hown, hbel, hrl⟩ := hrel
    have hne : w.heap.size ≠ mb := by omega
    have HI := Lib.hid hit
    have HP := Lib.hid hpm
    have HW := Lib.hid hown
    have HB := Lib.hid hbel
    clear hit hpm hown hbel
    go_wp2_with (at_next; refine wpList_next_ent _ rfl _ rfl mb w.heap.size (pairs st.l) todo rfl HI.out hne ?_ ?_)
    · intro h0
      have h1 : done.Perm st.l := by have := HP.out; rw [h0] at this; simpa using this
      have hf : (st.l.filter pr).Perm (done.filter pr) := (h1.filter pr).symm
      have hlen : (done.filter pr).length = (st.l.filter pr).length := hf.length_eq.symm
      have hle : (done.filter pr).length ≤ 1000000 := by
        have := HO.out.len
        have := List.length_filter_le pr st.l
        omega
      have eg28 : ∀ args w, (callFunc 28 args).run Try.prog w = .ok (.enter 28 args) w := enters_of Try.func28 (by kernel_rfl) rfl
      have hS := sort_ents 28 eg28 less1 HW.out hf (sub_ord HO.out.ord pr) hle (fun e he => by
        have h5 := HO.out.bnd e ((List.mem_filter.1 he).1)
        have h6 := HO.out.next.2
        omega)
      have HS := Lib.hid hS
      have HL := Lib.hid hlen
      have HE := Lib.hid hf
      clear hS h1 hf hlen hle eg28
      go_wp2_with (go_at_call 27; go_must (refine HS.out.mono ?_); rintro e w2 ⟨rfl, hs2, hr2⟩)
      go_ret
      rw [HL.out] at hs2 hr2 ⊢
      have hfr : ∀ k, (Value.slice sa (st.l.filter pr).length cap).ownBlock = some k → w.heap.size ≤ k := fun k hk => by
        have hw := HW.out
        rw [HL.out] at hw
        have := (hw.lt k hk).1; omega
      refine ⟨sa, cap, rfl, ?_, hr2, hfr⟩
      exact ⟨hs2.os.trans HB.out.os, hs2.tape.trans HB.out.tape, hs2.output.trans HB.out.output, Nat.le_trans HB.out.size hs2.size, fun k hk => by
        rw [hs2.block k (by omega) (fun e => by have := hfr k e; omega)]
        exact HB.out.block k hk⟩
    · rintro e todo' w1 h1 h2 h3 h4 hen
      have hme : e ∈ st.l := by
        have : e ∈ done ++ todo := List.mem_append_right _ (h1.mem_iff.2 (by simp))
        exact HP.out.mem_iff.1 this
      have hb1 : Below w.heap.size w w1 := ⟨h3.os.trans HB.out.os, h3.tape.trans HB.out.tape, h3.output.trans HB.out.output, Nat.le_trans HB.out.size h3.size, fun k hk => (h3.block k (by omega) (fun e => by simp at e; omega)).trans (HB.out.block k hk)⟩
      have hw1 : w1.ownsRow (w.heap.size + 1) 35 8 (.slice sa (done.filter pr).length cap) (done.filter pr).length (entCells (done.filter pr)) := owns_same HW.out (fun k hk => h3.block k (HW.out.lt k hk).2 (fun e => by simp at e; have := (HW.out.lt k hk).1; omega))
      have HE := Lib.hid (And.intro hme h1)
      have HI1 := Lib.hid h2
      have HB1 := Lib.hid hb1
      have HW1 := Lib.hid hw1
      clear hme h1 h2 h3 hb1 hw1
      have hsz : w.heap.size < w1.heap.size := by omega
      have H4 := Lib.hid h4
      clear h4
      obtain ⟨⟨e0, e1⟩, e2, e3, e4, ⟨e5, e6⟩, e7⟩ := e
      simp only [Ent.v, Ent.cells, Hd.v] at hen
      have hB2 := HB1.out.alloc (by omega) (.cells #[.int .u64 e0, .int .u64 e1, .int .i64 e2, .int .u8 e3, .int .u32 e4, .int .u64 e5, .int .u64 e6, .int .i64 e7] 35)
      have hc := HC.out _ HE.out.1 _ hB2
      generalize hq : pr ⟨⟨e0, e1⟩, e2, e3, e4, ⟨e5, e6⟩, e7⟩ = q at hc
      have HQ := Lib.hid hq
      have HC1 := Lib.hid hc
      clear hc hB2 hq
      go_upto_region 7 with (fail)
      have hdl : (done.filter pr).length ≤ 1000000 := by
        have h1 := HP.out.length_eq
        have h2 := HO.out.len
        have h3 := List.length_filter_le pr done
        rw [List.length_append] at h1
        omega
      have HDL := Lib.hid hdl
      clear hdl
      cases q with
      | true =>
        go_wp2_with (first | (go_at_fn g; go_must (refine HC1.out.mono ?_); rintro ex w2 ⟨rfl, hb2⟩; have HB2 := Lib.hid hb2; have hz2 : w1.heap.size + 1 ≤ w2.heap.size := (by have := hb2.size; simpa using this); have h8 := eight_cells (below_block hb2 (heap_alloc_new w1 (.cells #[.int .u64 e0, .int .u64 e1, .int .i64 e2, .int .u8 e3, .int .u32 e4, .int .u64 e5, .int .u64 e6, .int .i64 e7] 35))); have hw2 : w2.ownsRow (w.heap.size + 1) 35 8 (.slice sa (done.filter pr).length cap) (done.filter pr).length (entCells (done.filter pr)) := owns_same (HW1.out.alloc _) (fun k hk => hb2.block k (by have := (HW1.out.lt k hk).2; simp; omega)); have HW2 := Lib.hid hw2; clear hb2 hw2; obtain ⟨c0, c1, c2, c3, c4, c5, c6, c7⟩ := h8) | (at_builtin; go_must (refine wpList_append2 _ rfl (.tmp 22) (.tmp 24) 38 rfl (w.heap.size + 1) 35 i0 (.agg #[.int .u64 0, .int .u64 0, .int .i64 0, .int .u8 0, .int .u32 0, .int .u64 0, .int .u64 0, .int .i64 0]) 8 56 Try.underlying38 HIN.out.1 HIN.out.2.1 HIN.out.2.2.1 HIN.out.2.2.2 rfl (by decide) (.slice sa (done.filter pr).length cap) (done.filter pr).length (entCells (done.filter pr)) rfl (by exact HW2.out.alloc _) _ 1 [.int .u64 e0, .int .u64 e1, .int .i64 e2, .int .u8 e3, .int .u32 e4, .int .u64 e5, .int .u64 e6, .int .i64 e7] rfl (by exact Rd.new w2 8 [.int .u64 e0, .int .u64 e1, .int .i64 e2, .int .u8 e3, .int .u32 e4, .int .u64 e5, .int .u64 e6, .int .i64 e7] 35 1 1 rfl (Nat.le_refl _)) (by simp [Value.oneCell']) (by have := HDL.out; unfold maxLen; omega) (by have := HDL.out; omega) (by simp; omega) ?_); intro a' c' w5 ho5 hg5 hb5; have HG5 := Lib.hid (And.intro ho5 hg5); clear ho5 hg5 hb5))
        have hsz5 : w1.heap.size ≤ w5.heap.size := by
          have := HG5.out.2.size; simp at this; omega
        have hblk : ∀ k, k < w1.heap.size → (Value.slice sa (done.filter pr).length cap).ownBlock ≠ some k → w5.heap[k]? = w1.heap[k]? := fun k hk hn => by
          rw [HG5.out.2.block k (by simp; omega) (fun e => hn e.symm), Below.heap_alloc _ _ _ (by omega), HB2.out.block k (by simp; omega), Below.heap_alloc _ _ _ hk]
        have hown : ∀ k, k ≤ w.heap.size → (Value.slice sa (done.filter pr).length cap).ownBlock ≠ some k := fun k hk e => by
          have := (HW1.out.lt k e).1; omega
        have hit5 := HI1.out.same (hblk mb (by omega) (hown mb (by omega))) (hblk w.heap.size hsz (hown _ (Nat.le_refl _)))
        have hos : w5.os = w1.os ∧ w5.tape = w1.tape ∧ w5.output = w1.output := ⟨HG5.out.2.os.trans HB2.out.os, HG5.out.2.tape.trans HB2.out.tape, HG5.out.2.output.trans HB2.out.output⟩
        go_roundw
        case measure =>
          rw [hit5.left, HI.out.left]
          have := HE.out.2.length_eq
          simp only [pairs, List.length_map, List.length_cons] at this ⊢
          omega
        case rel =>
          have hfil : (done ++ [(⟨⟨e0, e1⟩, e2, e3, e4, ⟨e5, e6⟩, e7⟩ : Ent)]).filter pr = done.filter pr ++ [⟨⟨e0, e1⟩, e2, e3, e4, ⟨e5, e6⟩, e7⟩] := by
            rw [List.filter_append, List.filter_cons_of_pos HQ.out, List.filter_nil]
          refine ⟨todo', done ++ [⟨⟨e0, e1⟩, e2, e3, e4, ⟨e5, e6⟩, e7⟩], a', c', hit5, ?_, ?_, ?_, ?_, by omega⟩
          · rw [List.append_assoc]
            exact (List.Perm.append_left done HE.out.2.symm).trans HP.out
          · rw [hfil, List.length_append]; rfl
          · have := HG5.out.1
            rw [hfil, List.length_append]
            unfold entCells at this ⊢
            rw [List.flatMap_append]
            exact this
          · exact ⟨hos.1.trans HB1.out.os, hos.2.1.trans HB1.out.tape, hos.2.2.trans HB1.out.output, by have := HB1.out.size; omega, fun k hk => (hblk k (by omega) (hown k (by omega))).trans (HB1.out.block k hk)⟩
      | false =>
        go_wp2_with (go_at_fn g; go_must (refine HC1.out.mono ?_); rintro ex w2 ⟨rfl, hb2⟩; have HB2 := Lib.hid hb2; clear hb2)
        have hsz2 : w1.heap.size ≤ w2.heap.size := by
          have := HB2.out.size; simp at this; omega
        have hblk : ∀ k, k < w1.heap.size → w2.heap[k]? = w1.heap[k]? := fun k hk => by
          rw [HB2.out.block k (by simp; omega), Below.heap_alloc _ _ _ hk]
        have hit5 := HI1.out.same (hblk mb (by omega)) (hblk w.heap.size hsz)
        go_roundw
        case measure =>
          rw [hit5.left, HI.out.left]
          have := HE.out.2.length_eq
          simp only [pairs, List.length_map, List.length_cons] at this ⊢
          omega
        case rel =>
          have hfil : (done ++ [(⟨⟨e0, e1⟩, e2, e3, e4, ⟨e5, e6⟩, e7⟩ : Ent)]).filter pr = done.filter pr := by
            rw [List.filter_append, List.filter_cons_of_neg (by rw [HQ.out]; decide), List.filter_nil, List.append_nil]
          refine ⟨todo', done ++ [⟨⟨e0, e1⟩, e2, e3, e4, ⟨e5, e6⟩, e7⟩], sa, cap, hit5, ?_, ?_, ?_, ?_, by omega⟩
          · rw [List.append_assoc]
            exact (List.Perm.append_left done HE.out.2.symm).trans HP.out
          · rw [hfil]
          · rw [hfil]
            exact owns_same HW1.out (fun k hk => hblk k (HW1.out.lt k hk).2)
          · exact ⟨HB2.out.os.trans HB1.out.os, HB2.out.tape.trans HB1.out.tape, HB2.out.output.trans HB1.out.output, by have := HB1.out.size; omega, fun k hk => (hblk k (by omega)).trans (HB1.out.block k hk)⟩
end
end Go.Proofs.Ytoeeobebkalglaa
