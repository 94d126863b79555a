/- A walk of Revoke: a handle, and all that were made of it, are no more. -/
import Derived.Test.YtoeeobebkalglaaFun
namespace Go.Ease
open Go.RowKit Go.ChangeMaps
/-- What Revoke takes, and what it leaves. -/
def FS.gone (st : FS) (h : Hd) : List Ent := st.l.filter (fun e => decide (e.h ∈ inSet h st.l))
def FS.left (st : FS) (h : Hd) : List Ent := st.l.filter (fun e => !decide (e.h ∈ inSet h st.l))
def FS.rev (st : FS) (h : Hd) : FS := ⟨st.left h, st.next⟩
theorem FS.split (st : FS) (h : Hd) : st.l.Perm (st.gone h ++ st.left h) := (List.filter_append_perm _ _).symm
end Go.Ease
namespace Go.Proofs.Ytoeeobebkalglaa
open Go.RowKit Go.Ease

section
set_option maxHeartbeats 400000
theorem pred_in {w : World} {B ib : Nat} {I : List Hd} (hB : w.cell? ⟨B, 0, none⟩ = some (.map (some ib))) (hlt : B < w.heap.size) (hm : Mp Try.prog 30 w ib (marks I)) (l : List Ent) (hok : ∀ e ∈ l, e.h.ok) :
    PredOn w l 32 #[.pointer (some ⟨B, 0, none⟩)] (fun e => decide (e.h ∈ I)) := by
  intro e he wx hx
  have hc : wx.cell? ⟨B, 0, none⟩ = some (.map (some ib)) := by rw [World.cell?_of_block (w := w) (a := ⟨B, 0, none⟩) (hx.block B hlt)]; exact hB
  have hl : B < wx.heap.size := Nat.lt_of_lt_of_le hlt hx.size
  have hmx := hm.same (hx.block ib hm.lt)
  have hlk := fun (o : Obj) => look_set (wq := wx.alloc o) (hmx.same (Below.heap_alloc _ _ _ hmx.lt)) (hok e he)
  obtain ⟨⟨e0, e1⟩, e2, e3, e4, ⟨e5, e6⟩, e7⟩ := e
  simp only [Hd.v] at hlk
  show Calls Try.prog 32 #[.agg #[.int .u64 e0, .int .u64 e1, .int .i64 e2, .int .u8 e3, .int .u32 e4, .int .u64 e5, .int .u64 e6, .int .i64 e7], .pointer (some ⟨B, 0, none⟩)] wx fun ex w' => ex = .returned (.bool (decide ((⟨e0, e1⟩ : Hd) ∈ I))) ∧ Below wx.heap.size wx w'
  generalize decide ((⟨e0, e1⟩ : Hd) ∈ I) = q at hlk ⊢
  clear he hx hB hlt hm hmx hok
  go_enter Try.func32, Try.ntmps32
  go_wp2
  go_ret
  refine ⟨rfl, ?_⟩
  (repeat' (first | exact Below.refl _ _ | refine Below.drew ?_ | refine Below.setCell ?_ (by simp <;> omega) _ | refine Below.alloc ?_ (by simp <;> omega) _))

/-- What Revoke's loop has done. -/
def RevRel (w : World) (p mb : Nat) (st : FS) (hd : Hd) (sa : Option Addr) (cap : Nat) (i : Value) (wr : World) : Prop :=
  ∃ k : Nat, k ≤ (st.gone hd).length ∧ i = .int .i64 k ∧ Mp Try.prog 30 wr mb (pairs ((st.gone hd).drop k ++ st.left hd)) ∧ Stp (FS.F p mb) w wr (FS.F p mb) ∧
    wr.heap[p]? = some (.cells #[.map (some mb), .int .i64 st.next] 64 (0, 0)) ∧ Rd wr 8 (.slice sa (st.gone hd).length cap) (st.gone hd).length (entCells (st.gone hd)) ∧
    ∀ g, (Value.slice sa (st.gone hd).length cap).ownBlock = some g → w.heap.size ≤ g

theorem revoke_no {w : World} {p mb : Nat} {st : FS} (h : Fo w p mb st) (hd : Hd) (hk : hd.ok) (hno : (st.find hd).isSome = false) :
    Calls Try.prog 17 #[.pointer (some ⟨p, 0, none⟩), hd.v] w fun ex w' => ex = .returned (.slice none 0 0) ∧ Below w.heap.size w w' := by
  have ht := taken_any (h.below ((Below.refl _ _).alloc (Nat.le_refl _) (.cells #[.int .u64 hd.hi, .int .u64 hd.lo] 30))) hd hk
  rw [hno] at ht
  have HT := Lib.hid ht
  clear ht h hk hno
  obtain ⟨x0, x1⟩ := hd
  show Calls Try.prog 17 #[.pointer (some ⟨p, 0, none⟩), .agg #[.int .u64 x0, .int .u64 x1]] w _
  go_enter Try.func17, Try.ntmps17
  go_wp2_with (go_at_call 19; go_must (refine HT.out.mono ?_); rintro ex w1 ⟨rfl, hb1⟩; have HB1 := Lib.hid hb1; clear hb1)
  go_ret
  exact ⟨rfl, ((Below.refl _ _).alloc (Nat.le_refl _) _).trans (HB1.out.mono (by simp))⟩

theorem revoke_nil (hd : Hd) (w : World) :
    Calls Try.prog 17 #[.pointer none, hd.v] w fun ex w' => ex = .returned (.slice none 0 0) ∧ Below w.heap.size w w' := by
  have ht := taken_nil hd
  have HT := Lib.hid ht
  clear ht
  obtain ⟨x0, x1⟩ := hd
  show Calls Try.prog 17 #[.pointer none, .agg #[.int .u64 x0, .int .u64 x1]] w _
  go_enter Try.func17, Try.ntmps17
  go_wp2_with (go_at_call 19; go_must (refine (HT.out _).mono ?_); rintro ex w1 ⟨rfl, hb1⟩; have HB1 := Lib.hid hb1; clear hb1)
  go_ret
  exact ⟨rfl, ((Below.refl _ _).alloc (Nat.le_refl _) _).trans (HB1.out.mono (by simp))⟩

set_option maxRecDepth 100000 in
theorem revoke_yes {w : World} {p mb : Nat} {st : FS} (h : Fo w p mb st) (hO : st.Ok) (hd : Hd) (hk : hd.ok) (hyes : (st.find hd).isSome = true) :
    Calls Try.prog 17 #[.pointer (some ⟨p, 0, none⟩), hd.v] w fun ex w' => ∃ sa cap, ex = .returned (.slice sa (st.gone hd).length cap) ∧ Stp (FS.F p mb) w w' (FS.F p mb) ∧ Fo w' p mb (st.rev hd) ∧
      Rd w' 8 (.slice sa (st.gone hd).length cap) (st.gone hd).length (entCells (st.gone hd)) ∧ ∀ g, (Value.slice sa (st.gone hd).length cap).ownBlock = some g → w.heap.size ≤ g := by
  have eg : ∀ args w, (callFunc 32 args).run Try.prog w = .ok (.enter 32 args) w := enters_of Try.func32 (by kernel_rfl) rfl
  have ht := fun (wx : World) (hx : Fo wx p mb st) => taken_any hx hd hk
  rw [hyes] at ht
  have hu := fun (wx : World) (hx : Fo wx p mb st) => under_any hx hO hd hk
  have hl := fun (wx : World) (hx : Fo wx p mb st) (cb : Array Value) (hp : PredOn wx st.l 32 cb (fun e => decide (e.h ∈ inSet hd st.l))) => list_any hx hO _ cb (fun e => decide (e.h ∈ inSet hd st.l)) eg hp
  have HT := Lib.hid ht
  have HU := Lib.hid hu
  have HL := Lib.hid hl
  have HF := Lib.hid h
  have HO := Lib.hid hO
  have hpl := h.lt
  have hml := h.mp.lt
  have hne := h.ne
  clear ht hu hl h hO eg hyes
  obtain ⟨x0, x1⟩ := hd
  show Calls Try.prog 17 #[.pointer (some ⟨p, 0, none⟩), .agg #[.int .u64 x0, .int .u64 x1]] w _
  go_enter Try.func17, Try.ntmps17
  go_upto_region 4 with (first | (go_at_call 19; go_must (refine (HT.out _ (by exact HF.out.below ((Below.refl _ _).alloc (Nat.le_refl _) _))).mono ?_); rintro ex w1 ⟨rfl, hb1⟩; have hz1 : w.heap.size + 1 ≤ w1.heap.size := (by have := hb1.size; simpa using this); obtain ⟨x0c, x1c⟩ := two_cells (below_block hb1 (heap_alloc_new w _)); have HB1 := Lib.hid (((Below.refl _ _).alloc (Nat.le_refl _) _).trans (hb1.mono (by simp))); clear hb1) | (go_at_call 31; go_must (refine (HU.out _ (by exact HF.out.below HB1.out)).mono ?_); rintro ex w2 ⟨rfl, hb2, hz2, hm2⟩; have HB2 := Lib.hid (And.intro (HB1.out.trans (hb2.mono (by omega))) hm2); clear hb2 hm2))
  have hpr : PredOn (w2.alloc (.cells #[.map (some (w1.heap.size + 1))] 69)) st.l 32 #[.pointer (some ⟨w2.heap.size, 0, none⟩)] (fun e => decide (e.h ∈ inSet ⟨x0, x1⟩ st.l)) :=
    pred_in (B := w2.heap.size) (ib := w1.heap.size + 1) (by go_simp) (by simp) (HB2.out.2.same (Below.heap_alloc _ _ _ hz2)) st.l (fun e he => (HO.out.hok e he).1)
  have hW : Below w.heap.size w (w2.alloc (.cells #[.map (some (w1.heap.size + 1))] 69)) := HB2.out.1.alloc (by omega) _
  have hl3 := HL.out _ (HF.out.below hW) _ hpr
  have HL3 := Lib.hid (And.intro hW hl3)
  have hzw : w.heap.size ≤ w2.heap.size := by omega
  clear hpr hW hl3 x0c x1c
  go_upto_region 6 with (go_at_call 10; go_must (refine HL3.out.2.mono ?_); rintro ex w3 ⟨sa, cap, rfl, hb3, hr3, hf3⟩; have HB3 := Lib.hid (And.intro (HL3.out.1.trans (hb3.mono (by simp; omega))) (And.intro hr3 (fun g hg => Nat.le_trans (show w.heap.size ≤ _ by simp; omega) (hf3 g hg)))); clear hb3 hr3 hf3)
  go_loopw [21] (fun i wr => RevRel w p mb st (⟨x0, x1⟩ : Hd) sa cap i wr) (fun i _ => (st.gone ⟨x0, x1⟩).length - (intOf i).toNat)
  case atStart =>
    have hF3 := HF.out.below HB3.out.1
    exact ⟨0, Nat.zero_le _, rfl, hF3.mp.perm ((FS.split st ⟨x0, x1⟩).map _), Stp.of_below HB3.out.1, hF3.fb, HB3.out.2.1, HB3.out.2.2⟩
  case round =>
    obtain ⟨k, hkn, rfl, hm, hs, hfb, hr, hgo⟩ := hrel
    have HM := Lib.hid (And.intro hm (And.intro hs (And.intro hfb (And.intro hr hgo))))
    have hml2 := hm.lt
    have hl6 := HO.out.len
    have hgl : (st.gone ⟨x0, x1⟩).length ≤ st.l.length := List.length_filter_le _ _
    clear hgo hm hs
    by_cases hlt : k < (st.gone ⟨x0, x1⟩).length
    · rcases hr.2 with ⟨hv, hn0⟩ | ⟨g, off, cap', hv, hnc, hgl', hgc⟩
      · omega
      · simp only [Value.slice.injEq] at hv
        obtain ⟨rfl, _, rfl⟩ := hv
        obtain ⟨e, he⟩ : ∃ e, (st.gone ⟨x0, x1⟩)[k]? = some e := ⟨(st.gone ⟨x0, x1⟩)[k], List.getElem?_eq_getElem hlt⟩
        have hme := List.mem_of_getElem? he
        have hko := (HO.out.hok e (List.mem_filter.1 hme).1).1
        obtain ⟨kl, hkl⟩ := hdKey hko
        obtain ⟨c0, c1, c2, c3, c4, c5, c6, c7⟩ := ent_cells (cap := cap) hgc he
        have HE := Lib.hid (And.intro he hkl)
        have hp0 : wr.cell? ⟨p, 0, none⟩ = some (.map (some mb)) := by rw [cell_of_row wr p _ _ _ _ hfb]; rfl
        have hpw := lt_of_block hfb
        clear hgc hme he hkl hko hr hfb
        obtain ⟨⟨e0, e1⟩, e2, e3, e4, ⟨e5, e6⟩, e7⟩ := e
        simp only at c0 c1 c2 c3 c4 c5 c6 c7
        go_upto_region 8 with (fail)
        have hdrop : pairs ((st.gone ⟨x0, x1⟩).drop k ++ st.left ⟨x0, x1⟩) = ((Hd.mk e0 e1).v, (Ent.mk ⟨e0, e1⟩ e2 e3 e4 ⟨e5, e6⟩ e7).v) :: pairs ((st.gone ⟨x0, x1⟩).drop (k + 1) ++ st.left ⟨x0, x1⟩) := by
          rw [List.drop_eq_getElem_cons hlt, (List.getElem?_eq_some_iff.1 HE.out.1).2]
          rfl
        have hm5 : Mp Try.prog 30 (wr.alloc (.cells #[.int .u64 e0, .int .u64 e1, .int .i64 e2, .int .u8 e3, .int .u32 e4, .int .u64 e5, .int .u64 e6, .int .i64 e7] 35)) mb (((Hd.mk e0 e1).v, (Ent.mk ⟨e0, e1⟩ e2 e3 e4 ⟨e5, e6⟩ e7).v) :: pairs ((st.gone ⟨x0, x1⟩).drop (k + 1) ++ st.left ⟨x0, x1⟩)) := by
          rw [← hdrop]
          exact HM.out.1.same (Below.heap_alloc _ _ _ hml2)
        have HM5 := Lib.hid hm5
        clear hm5 hdrop c2 c3 c4 c5 c6 c7
        have hwm : wr.heap.size ≠ mb := by omega
        refine wp_region_ord (fun w' => w'.cell? ⟨p, 0, none⟩ = some (.map (some mb)) ∧ w'.cell? ⟨wr.heap.size, 0, none⟩ = some (.int .u64 e0) ∧ w'.cell? ⟨wr.heap.size, 1, none⟩ = some (.int .u64 e1)) 7 [(0,0),(1,0),(2,0),(3,0),(4,0),(5,0),(6,1)] (by kernel_rfl) (by kernel_rfl) (fun c a d v w h => by cases d <;> exact h) ⟨by rw [World.cell?_drew, World.cell?_alloc_lt (a := ⟨p, 0, none⟩) _ _ hpw]; exact hp0, by go_simp, by go_simp⟩ ?_
        repeat (first | (refine wpOrd_skip rfl rfl ?_; simp only [Act.put, List.setIfInBounds_toArray, List.set_cons_succ, List.set_cons_zero]) | (refine wpOrd_pure rfl rfl ?_; apply Exists.intro; refine ⟨fun wq => ?_, ?_⟩; (go_simp <;> rfl); simp only [Act.put, List.setIfInBounds_toArray, List.set_cons_succ, List.set_cons_zero]) | (refine wpOrd_read rfl rfl (by decide) ?_; apply Exists.intro; refine ⟨fun wq hq => ?_, ?_⟩; (go_simp <;> rfl); simp only [Act.put, List.setIfInBounds_toArray, List.set_cons_succ, List.set_cons_zero]))
        refine wpOrd_act rfl (by decide) (fun K hK => ?_)
        go_wp2_with (at_delete; go_must (refine wpList_delete_mp (k := 30) _ rfl _ _ _ rfl _ hdKeyed Try.underlying62 mb (pairs ((st.gone ⟨x0, x1⟩).drop (k + 1) ++ st.left ⟨x0, x1⟩)) (Hd.mk e0 e1).v (Ent.mk ⟨e0, e1⟩ e2 e3 e4 ⟨e5, e6⟩ e7).v _ rfl rfl HE.out.2 (by exact HM5.out) ?_); intro w5 hm6 hg6 hz6; have H6 := Lib.hid (And.intro hm6 (And.intro hg6 hz6)); clear hm6 hg6 hz6)
        refine hK _ _ ?_ (fun hS => ?_)
        all_goals (clear hK K)
        · obtain ⟨-, hg6, hz6⟩ := H6.out
          refine ⟨?_, ?_, ?_⟩
          · rw [World.cell?_of_block (w := wr.alloc (.cells #[.int .u64 e0, .int .u64 e1, .int .i64 e2, .int .u8 e3, .int .u32 e4, .int .u64 e5, .int .u64 e6, .int .i64 e7] 35)) (a := ⟨p, 0, none⟩) (hg6.block p (by simp; omega) (fun e => hne (by cases e; rfl))), World.cell?_alloc_lt (a := ⟨p, 0, none⟩) _ _ hpw]; exact hp0
          · rw [World.cell?_of_block (w := wr.alloc (.cells #[.int .u64 e0, .int .u64 e1, .int .i64 e2, .int .u8 e3, .int .u32 e4, .int .u64 e5, .int .u64 e6, .int .i64 e7] 35)) (a := ⟨wr.heap.size, 0, none⟩) (hg6.block wr.heap.size (by simp) (fun e => hwm (by cases e; rfl)))]; go_simp
          · rw [World.cell?_of_block (w := wr.alloc (.cells #[.int .u64 e0, .int .u64 e1, .int .i64 e2, .int .u8 e3, .int .u32 e4, .int .u64 e5, .int .u64 e6, .int .i64 e7] 35)) (a := ⟨wr.heap.size, 1, none⟩) (hg6.block wr.heap.size (by simp) (fun e => hwm (by cases e; rfl)))]; go_simp
        refine wpOrd_nil ?_
        clear hS
        go_wp2
        obtain ⟨hm6, hg6, hz6⟩ := H6.out
        have hz6' : w5.heap.size = wr.heap.size + 1 := by rw [hz6]; simp
        have hblk : ∀ j, j < wr.heap.size → j ≠ mb → w5.heap[j]? = wr.heap[j]? := fun j hj hjn => (hg6.block j (by simp; omega) (fun e => hjn (by cases e; rfl))).trans (Below.heap_alloc _ _ _ hj)
        go_roundw
        case measure => simp [intOf]; omega
        case rel =>
          refine ⟨k + 1, by omega, by go_num, hm6, ((HM.out.2.1.alloc _).drew.grown hg6 (fun j hj _ => by cases hj; exact .inr rfl)), (hblk p hpw hne).trans HM.out.2.2.1, HM.out.2.2.2.1.same (by omega) (fun j hj => hblk j (HM.out.2.2.2.1.lt hj) (by have := HM.out.2.2.2.2 j hj; omega)), HM.out.2.2.2.2⟩
    · have hkk : k = (st.gone ⟨x0, x1⟩).length := by omega
      subst hkk
      go_wp2
      go_ret
      refine ⟨sa, cap, rfl, HM.out.2.1, ⟨HM.out.2.2.1, ?_⟩, HM.out.2.2.2.1, HM.out.2.2.2.2⟩
      have := HM.out.1
      rwa [List.drop_length, List.nil_append] at this
end
end Go.Proofs.Ytoeeobebkalglaa
