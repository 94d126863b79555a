/- A walk of under: a handle, and all that were made of it. -/
import Derived.Test.YtoeeobebkalglaaFct
namespace Go.Ease
open Go.RowKit Go.ChangeMaps
def grow1 (I : List Hd) (e : Ent) : List Hd := if e.par ∈ I then (if e.h ∈ I then I else e.h :: I) else I
def inSet (h : Hd) (l : List Ent) : List Hd := l.foldl grow1 [h]
def marks (I : List Hd) : List (Value × Value) := I.map fun x => (x.v, .bool true)
theorem grow1_nodup {I : List Hd} (h : I.Nodup) (e : Ent) : (grow1 I e).Nodup := by
  unfold grow1
  split
  · split
    · exact h
    · exact List.nodup_cons.2 ⟨by assumption, h⟩
  · exact h
theorem inSet_snoc (h : Hd) (l : List Ent) (k : Nat) (hk : k < l.length) : inSet h (l.take (k + 1)) = grow1 (inSet h (l.take k)) l[k] := by
  unfold inSet
  rw [List.take_succ_eq_append_getElem hk, List.foldl_append]
  rfl
theorem inSet_len (h : Hd) : ∀ (l : List Ent) (I : List Hd), (l.foldl grow1 I).length ≤ I.length + l.length
  | [], I => by simp
  | e :: l, I => by
    have := inSet_len h l (grow1 I e)
    have : (grow1 I e).length ≤ I.length + 1 := by
      unfold grow1
      split
      · split <;> simp
      · simp
    simp only [List.foldl_cons, List.length_cons]
    omega
/-- Of a row of entries the one at a place. -/
theorem ent_cells {w : World} {g off cap : Nat} {l : List Ent} (h : ∀ j u, (entCells l)[j]? = some u → w.cell? ⟨g, off + j, none⟩ = some u) {k : Nat} {e : Ent} (hk : l[k]? = some e) :
    w.cell? ⟨g, off + k * 8, none⟩ = some (.int .u64 e.h.hi) ∧ w.cell? ⟨g, off + k * 8 + 1, none⟩ = some (.int .u64 e.h.lo) ∧ w.cell? ⟨g, off + k * 8 + 2, none⟩ = some (.int .i64 e.obj) ∧ w.cell? ⟨g, off + k * 8 + 3, none⟩ = some (.int .u8 e.rts) ∧
    w.cell? ⟨g, off + k * 8 + 4, none⟩ = some (.int .u32 e.own) ∧ w.cell? ⟨g, off + k * 8 + 5, none⟩ = some (.int .u64 e.par.hi) ∧ w.cell? ⟨g, off + k * 8 + 6, none⟩ = some (.int .u64 e.par.lo) ∧ w.cell? ⟨g, off + k * 8 + 7, none⟩ = some (.int .i64 e.ord) := by
  have e1 : ∀ c, c < 8 → (entCells l)[k * 8 + c]? = e.cells[c]? := fun c hc => by
    unfold entCells
    rw [flat_get 8 Ent.cells Ent.cells_len l k c hc, hk]; rfl
  have e2 : ∀ c u, c < 8 → e.cells[c]? = some u → w.cell? ⟨g, off + k * 8 + c, none⟩ = some u := fun c u hc hu => by
    rw [Nat.add_assoc]; exact h _ _ ((e1 c hc).trans hu)
  exact ⟨e2 0 _ (by omega) rfl, e2 1 _ (by omega) rfl, e2 2 _ (by omega) rfl, e2 3 _ (by omega) rfl, e2 4 _ (by omega) rfl, e2 5 _ (by omega) rfl, e2 6 _ (by omega) rfl, e2 7 _ (by omega) rfl⟩
end Go.Ease
namespace Go.Proofs.Ytoeeobebkalglaa
open Go.RowKit Go.Ease

theorem zeroBool (w : World) : (zeroValue 4).run Try.prog w = .ok (.bool false) w := by kernel_rfl

/-- What a look into a set of handles tells. -/
theorem look_set {wq : World} {b : Nat} {I : List Hd} (h : Mp Try.prog 30 wq b (marks I)) {x : Hd} (hk : x.ok) :
    (Instr.lookup 69 (.map (some b)) x.v false).run Try.prog wq = .ok (.bool (decide (x ∈ I))) wq := by
  obtain ⟨l, hl⟩ := hdKey hk
  by_cases hx : x ∈ I
  · have := h.look hdKeyed Try.underlying69 (zeroBool wq) false hl (v := .bool true) (List.mem_map.2 ⟨x, hx, rfl⟩)
    simpa [hx] using this
  · have := h.miss hdKeyed Try.underlying69 (zeroBool wq) false hl (fun v hv => by
      obtain ⟨y, hy, hyv⟩ := List.mem_map.1 hv
      simp only [Prod.mk.injEq] at hyv
      exact hx (Hd.v_inj hyv.1 ▸ hy))
    simpa [hx] using this

/-- A handle comes into a set. -/
theorem put_set {wq : World} {b : Nat} {I : List Hd} (h : Mp Try.prog 30 wq b (marks I)) {x : Hd} (hk : x.ok) (hroom : I.length < maxLen) :
    ∃ ob, (Instr.mapUpdate 69 (.map (some b)) x.v (.bool true)).run Try.prog wq = .ok () (ChangeMaps.setBlock wq b ob) ∧ Mp Try.prog 30 (ChangeMaps.setBlock wq b ob) b (marks (if x ∈ I then I else x :: I)) := by
  obtain ⟨l, hl⟩ := hdKey hk
  by_cases hx : x ∈ I
  · have hp : (marks I).Perm ((x.v, .bool true) :: marks (I.erase x)) := (List.perm_cons_erase hx).map _
    obtain ⟨ob, h1, h2⟩ := (h.perm hp).store_old hdKeyed Try.underlying69 (v := .bool true) hl
    exact ⟨ob, h1, by rw [if_pos hx]; exact h2.perm hp.symm⟩
  · obtain ⟨ob, h1, h2⟩ := h.store_new hdKeyed Try.underlying69 (v := .bool true) hl (by simpa [marks] using hroom) (fun v hv => by
      obtain ⟨y, hy, hyv⟩ := List.mem_map.1 hv
      simp only [Prod.mk.injEq] at hyv
      exact hx (Hd.v_inj hyv.1 ▸ hy))
    exact ⟨ob, h1, by rw [if_neg hx]; exact h2⟩

/-- What under's loop has done. -/
def UnderRel (w : World) (st : FS) (hd : Hd) (sa : Option Addr) (cap : Nat) (i : Value) (wr : World) : Prop :=
  ∃ k : Nat, k ≤ st.l.length ∧ i = .int .i64 k ∧ Mp Try.prog 30 wr (w.heap.size + 1) (marks (inSet hd (st.l.take k))) ∧ Below w.heap.size w wr ∧ w.heap.size + 1 < wr.heap.size ∧ Rd wr 8 (.slice sa st.l.length cap) st.l.length (entCells st.l) ∧
    ∀ g, (Value.slice sa st.l.length cap).ownBlock = some g → w.heap.size + 1 < g

section
set_option maxHeartbeats 400000
set_option maxRecDepth 100000 in
theorem under_any {w : World} {p mb : Nat} {st : FS} (h : Fo w p mb st) (hO : st.Ok) (hd : Hd) (hk : hd.ok) :
    Calls Try.prog 31 #[.pointer (some ⟨p, 0, none⟩), hd.v] w fun ex w' => ex = .returned (.map (some (w.heap.size + 1))) ∧ Below w.heap.size w w' ∧ w.heap.size + 1 < w'.heap.size ∧ Mp Try.prog 30 w' (w.heap.size + 1) (marks (inSet hd st.l)) := by
  have hmm := @run_makeMap Try.prog
  have eg : ∀ args w, (callFunc 46 args).run Try.prog w = .ok (.enter 46 args) w := enters_of Try.func46 (by kernel_rfl) rfl
  have hl := fun (wx : World) (hx : Fo wx p mb st) => list_any hx hO _ #[] (fun _ => true) eg (pred_all wx st.l)
  have hft : st.l.filter (fun _ => true) = st.l := List.filter_eq_self.2 (fun _ _ => rfl)
  rw [hft] at hl
  have HL := Lib.hid hl
  have HO := Lib.hid hO
  have HF := Lib.hid h
  have HKK := Lib.hid hk
  obtain ⟨x0, x1⟩ := hd
  clear hl eg hO h hft hk
  show Calls Try.prog 31 #[.pointer (some ⟨p, 0, none⟩), .agg #[.int .u64 x0, .int .u64 x1]] w _
  go_enter Try.func31, Try.ntmps31
  have hne : Mp Try.prog 30 ((w.alloc (.cells #[.int .u64 x0, .int .u64 x1] 30)).alloc (.map #[] 0)) (w.heap.size + 1) (marks []) := Mp.new _ _ (heap_alloc2_new w _ _)
  have HNE := Lib.hid hne
  clear hne
  go_upto_region 3 with (first | (refine wpList_insert_mp (k := 30) _ rfl _ _ _ _ rfl (w.heap.size + 1) (marks [⟨x0, x1⟩]) (Hd.mk x0 x1).v (.bool true) rfl rfl rfl (put_set HNE.out HKK.out (by simp [maxLen])) ?_; intro w1 hm1 hg1 hz1; have hz1' : w1.heap.size = w.heap.size + 2 := (by rw [hz1]; simp); have HB1 := Lib.hid (And.intro hm1 (show Below w.heap.size w w1 from ⟨hg1.os, hg1.tape, hg1.output, by omega, fun k hk => (hg1.block k (by simp; omega) (fun e => by simp at e; omega)).trans ((Below.heap_alloc _ _ _ (by simp; omega)).trans (Below.heap_alloc _ _ _ hk))⟩)); clear hm1 hg1 hz1) | (go_at_call 10; go_must (refine (HL.out _ (HF.out.below HB1.out.2)).mono ?_); rintro ex w2 ⟨sa, cap, rfl, hb2, hr2, hf2⟩; have HB2 := Lib.hid (And.intro hb2 (And.intro hr2 hf2)); clear hb2 hr2 hf2))
  go_loopw [14] (fun i wr => UnderRel w st (⟨x0, x1⟩ : Hd) sa cap i wr) (fun i _ => st.l.length - (intOf i).toNat)
  case atStart =>
    refine ⟨0, Nat.zero_le _, rfl, HB1.out.1.same (HB2.out.1.block _ (by omega)), HB1.out.2.trans (HB2.out.1.mono (by omega)), by have := HB2.out.1.size; omega, HB2.out.2.1, fun g hg => by have := HB2.out.2.2 g hg; omega⟩
  case round =>
    obtain ⟨k, hkn, rfl, hm, hb, hz, hr, hgo⟩ := hrel
    have HM := Lib.hid (And.intro hm (And.intro hb (And.intro hr hgo)))
    clear hgo
    have hl6 := HO.out.len
    by_cases hlt : k < st.l.length
    · rcases hr.2 with ⟨hv, hn0⟩ | ⟨g, off, cap', hv, hnc, hgl, hgc⟩
      · omega
      · simp only [Value.slice.injEq] at hv
        obtain ⟨rfl, _, rfl⟩ := hv
        obtain ⟨e, he⟩ : ∃ e, st.l[k]? = some e := ⟨st.l[k], List.getElem?_eq_getElem hlt⟩
        have hme := List.mem_of_getElem? he
        obtain ⟨hko, hkp⟩ := HO.out.hok e hme
        obtain ⟨c0, c1, c2, c3, c4, c5, c6, c7⟩ := ent_cells (cap := cap) hgc he
        have HE := Lib.hid he
        clear hgc hme he
        obtain ⟨⟨e0, e1⟩, e2, e3, e4, ⟨e5, e6⟩, e7⟩ := e
        simp only at c0 c1 c2 c3 c4 c5 c6 c7 hko hkp
        have hlk := look_set (wq := wr.alloc (.cells #[.int .u64 e0, .int .u64 e1, .int .i64 e2, .int .u8 e3, .int .u32 e4, .int .u64 e5, .int .u64 e6, .int .i64 e7] 35)) (hm.same (Below.heap_alloc _ _ _ hz)) hkp
        have hput := put_set (wq := wr.alloc (.cells #[.int .u64 e0, .int .u64 e1, .int .i64 e2, .int .u8 e3, .int .u32 e4, .int .u64 e5, .int .u64 e6, .int .i64 e7] 35)) (hm.same (Below.heap_alloc _ _ _ hz)) hko (by
          have h1 := inSet_len (⟨x0, x1⟩ : Hd) (st.l.take k) [⟨x0, x1⟩]
          have h2 := HO.out.len
          simp only [List.length_take, List.length_cons, List.length_nil] at h1
          unfold inSet maxLen
          omega)
        have hsn := inSet_snoc (⟨x0, x1⟩ : Hd) st.l k hlt
        rw [(List.getElem?_eq_some_iff.1 HE.out).2] at hsn
        have HP := Lib.hid (And.intro hput hsn)
        clear hm hb hr hko hkp hput hsn
        generalize hq : decide ((⟨e5, e6⟩ : Hd) ∈ inSet ⟨x0, x1⟩ (st.l.take k)) = q at hlk
        have HQ := Lib.hid hq
        clear hq
        simp only [Hd.v] at hlk
        cases q with
        | true =>
          go_wp2_with (at_mapUpdate; go_must (refine wpList_mapUpdate_mp (k := 30) _ rfl _ _ _ _ rfl (w.heap.size + 1) (marks (if (⟨e0, e1⟩ : Hd) ∈ inSet ⟨x0, x1⟩ (st.l.take k) then inSet ⟨x0, x1⟩ (st.l.take k) else ⟨e0, e1⟩ :: inSet ⟨x0, x1⟩ (st.l.take k))) (Hd.mk e0 e1).v (.bool true) rfl rfl rfl HP.out.1 ?_); intro w5 hm5 hg5 hz5; have H5 := Lib.hid (And.intro hm5 (And.intro hg5 hz5)); clear hm5 hg5 hz5)
          obtain ⟨hm5, hg5, hz5⟩ := H5.out
          simp only [World.size_alloc] at hz5
          have hblk : ∀ j, j < wr.heap.size → j ≠ w.heap.size + 1 → w5.heap[j]? = wr.heap[j]? := fun j hj hjn => (hg5.block j (by simp; omega) (fun e => hjn (by cases e; rfl))).trans (Below.heap_alloc _ _ _ hj)
          have hI : inSet (⟨x0, x1⟩ : Hd) (st.l.take (k + 1)) = if (⟨e0, e1⟩ : Hd) ∈ inSet ⟨x0, x1⟩ (st.l.take k) then inSet ⟨x0, x1⟩ (st.l.take k) else ⟨e0, e1⟩ :: inSet ⟨x0, x1⟩ (st.l.take k) := by
            rw [HP.out.2]
            unfold grow1
            rw [if_pos (of_decide_eq_true HQ.out)]
          go_roundw
          case measure => simp [intOf]; omega
          case rel =>
            refine ⟨k + 1, by omega, by go_num, by rw [hI]; exact hm5, ?_, by omega, HM.out.2.2.1.same (by omega) (fun j hj => hblk j (HM.out.2.2.1.lt hj) (by have := HM.out.2.2.2 j hj; omega)), HM.out.2.2.2⟩
            exact ⟨hg5.os.trans HM.out.2.1.os, hg5.tape.trans HM.out.2.1.tape, hg5.output.trans HM.out.2.1.output, by have := HM.out.2.1.size; omega, fun j hj => (hblk j (by omega) (by omega)).trans (HM.out.2.1.block j hj)⟩
        | false =>
          have hI : inSet (⟨x0, x1⟩ : Hd) (st.l.take (k + 1)) = inSet ⟨x0, x1⟩ (st.l.take k) := by
            rw [HP.out.2]
            unfold grow1
            rw [if_neg (of_decide_eq_false HQ.out)]
          have HII := Lib.hid hI
          clear hI
          go_wp2
          go_roundw
          case measure => simp [intOf]; omega
          case rel =>
            refine ⟨k + 1, by omega, by go_num, by rw [HII.out]; exact HM.out.1.same (Below.heap_alloc _ _ _ hz), HM.out.2.1.alloc (by omega) _, by simp; omega, HM.out.2.2.1.same (by simp) (fun j hj => Below.heap_alloc _ _ _ (HM.out.2.2.1.lt hj)), HM.out.2.2.2⟩
    · have hkk : k = st.l.length := by omega
      subst hkk
      go_wp2
      go_ret
      refine ⟨rfl, HM.out.2.1, hz, ?_⟩
      have := HM.out.1
      rwa [List.take_length] at this
end
end Go.Proofs.Ytoeeobebkalglaa
