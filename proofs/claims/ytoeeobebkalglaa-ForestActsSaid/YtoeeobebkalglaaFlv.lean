/- A walk of Leave: all of somebody's handles are no more, and what was made of them. -/
import Derived.Test.YtoeeobebkalglaaFrv
namespace Go.Ease
open Go.RowKit Go.ChangeMaps
/-- Revoke, whether the handle is there or not. -/
def FS.step (st : FS) (h : Hd) : FS × List Ent := if (st.find h).isSome = true then (st.rev h, st.gone h) else (st, [])
/-- Leave, handle by handle. -/
def FS.leave (st : FS) : List Ent → FS × List Ent
  | [] => (st, [])
  | e :: r => (((st.step e.h).1.leave r).1, (st.step e.h).2 ++ ((st.step e.h).1.leave r).2)

theorem FS.Ok.rev {st : FS} (h : st.Ok) (hd : Hd) : (st.rev hd).Ok where
  hnd := (h.hnd.sublist ((List.filter_sublist).map _))
  ord := h.ord.filter _
  bnd := fun e he => h.bnd e (List.mem_filter.1 he).1
  next := h.next
  len := Nat.le_trans (List.length_filter_le _ _) h.len
  hok := fun e he => h.hok e (List.mem_filter.1 he).1

theorem FS.Ok.step {st : FS} (h : st.Ok) (hd : Hd) : (st.step hd).1.Ok := by
  unfold FS.step
  split
  · exact h.rev hd
  · exact h

theorem FS.step_perm (st : FS) (hd : Hd) : st.l.Perm ((st.step hd).2 ++ (st.step hd).1.l) := by
  unfold FS.step
  split
  · exact st.split hd
  · simp

/-- The first k of Leave's. -/
def FS.leaveN (st : FS) (l : List Ent) : FS × List Ent := l.foldl (fun s e => ((s.1.step e.h).1, s.2 ++ (s.1.step e.h).2)) (st, [])

theorem leaveN_snoc (st : FS) (l : List Ent) (k : Nat) (hk : k < l.length) : st.leaveN (l.take (k + 1)) = (((st.leaveN (l.take k)).1.step l[k].h).1, (st.leaveN (l.take k)).2 ++ ((st.leaveN (l.take k)).1.step l[k].h).2) := by
  unfold FS.leaveN
  rw [List.take_succ_eq_append_getElem hk, List.foldl_append]
  rfl

theorem leaveN_inv (st : FS) (h : st.Ok) : ∀ (l : List Ent) (s : FS × List Ent), s.1.Ok → s.1.l.Sublist st.l → st.l.Perm (s.2 ++ s.1.l) →
    (l.foldl (fun s e => ((s.1.step e.h).1, s.2 ++ (s.1.step e.h).2)) s).1.Ok ∧ (l.foldl (fun s e => ((s.1.step e.h).1, s.2 ++ (s.1.step e.h).2)) s).1.l.Sublist st.l ∧
      st.l.Perm ((l.foldl (fun s e => ((s.1.step e.h).1, s.2 ++ (s.1.step e.h).2)) s).2 ++ (l.foldl (fun s e => ((s.1.step e.h).1, s.2 ++ (s.1.step e.h).2)) s).1.l)
  | [], s, h1, h2, h3 => ⟨h1, h2, h3⟩
  | e :: l, s, h1, h2, h3 => by
    refine leaveN_inv st h l _ (h1.step e.h) ?_ ?_
    · refine List.Sublist.trans ?_ h2
      show (s.1.step e.h).1.l.Sublist s.1.l
      unfold FS.step
      split
      · exact List.filter_sublist
      · exact List.Sublist.refl _
    · refine h3.trans ?_
      show (s.2 ++ s.1.l).Perm (s.2 ++ (s.1.step e.h).2 ++ (s.1.step e.h).1.l)
      rw [List.append_assoc]
      exact List.Perm.append_left _ (s.1.step_perm e.h)

theorem leaveN_ok (st : FS) (h : st.Ok) (l : List Ent) : (st.leaveN l).1.Ok ∧ (st.leaveN l).1.l.Sublist st.l ∧ st.l.Perm ((st.leaveN l).2 ++ (st.leaveN l).1.l) :=
  leaveN_inv st h l (st, []) h (List.Sublist.refl _) (by simp)

/-- What Leave tells: what is no more, as it was made. -/
def FS.out (st : FS) (l : List Ent) : List Ent := st.l.filter (fun e => decide (e ∉ (st.leaveN l).1.l))

theorem ent_nodup {st : FS} (h : st.Ok) : st.l.Nodup := by
  refine h.ord.imp ?_
  intro a b hab e
  subst e
  omega

theorem out_perm (st : FS) (h : st.Ok) (l : List Ent) : (st.out l).Perm (st.leaveN l).2 := by
  obtain ⟨h1, h2, h3⟩ := leaveN_ok st h l
  have hn := ent_nodup h
  have hn2 := (h3.nodup_iff).1 hn
  rw [List.nodup_append] at hn2
  refine (List.perm_ext_iff_of_nodup (hn.filter _) hn2.1).2 fun a => ?_
  rw [List.mem_filter, h3.mem_iff, List.mem_append]
  constructor
  · rintro ⟨ha | ha, hb⟩
    · exact ha
    · exact absurd ha (by simpa using hb)
  · intro ha
    exact ⟨.inl ha, by simpa using fun hb => hn2.2.2 a ha a hb rfl⟩
end Go.Ease
namespace Go.Proofs.Ytoeeobebkalglaa
open Go.RowKit Go.Ease

theorem revoke_any {w : World} {p mb : Nat} {st : FS} (h : Fo w p mb st) (hO : st.Ok) (hd : Hd) (hk : hd.ok) :
    Calls Try.prog 17 #[.pointer (some ⟨p, 0, none⟩), hd.v] w fun ex w' => ∃ sa cap, ex = .returned (.slice sa (st.step hd).2.length cap) ∧ Stp (FS.F p mb) w w' (FS.F p mb) ∧ Fo w' p mb (st.step hd).1 ∧
      Rd w' 8 (.slice sa (st.step hd).2.length cap) (st.step hd).2.length (entCells (st.step hd).2) ∧ ∀ g, (Value.slice sa (st.step hd).2.length cap).ownBlock = some g → w.heap.size ≤ g := by
  unfold FS.step
  cases hq : (st.find hd).isSome with
  | true =>
    simp only [if_true]
    exact revoke_yes h hO hd hk hq
  | false =>
    simp only [Bool.false_eq_true, if_false]
    refine (revoke_no h hd hk hq).mono ?_
    rintro ex w' ⟨rfl, hb⟩
    exact ⟨none, 0, rfl, Stp.of_below hb, h.below hb, Rd.nil _ _, fun g hg => by simp [Value.ownBlock] at hg⟩

section
set_option maxHeartbeats 400000
/-- What Leave's loop has done. -/
def LvRel (w : World) (p mb base : Nat) (st : FS) (l : List Ent) (sa : Option Addr) (cap : Nat) (v i : Value) (wr : World) : Prop :=
  ∃ (k : Nat) (oa : Option Addr) (oc : Nat), k ≤ l.length ∧ i = .int .i64 k ∧ v = .slice oa (st.leaveN (l.take k)).2.length oc ∧ Fo wr p mb (st.leaveN (l.take k)).1 ∧ Stp (FS.F p mb) w wr (FS.F p mb) ∧ base ≤ wr.heap.size ∧
    wr.ownsRow base 35 8 (.slice oa (st.leaveN (l.take k)).2.length oc) (st.leaveN (l.take k)).2.length (entCells (st.leaveN (l.take k)).2) ∧ Rd wr 8 (.slice sa l.length cap) l.length (entCells l)

theorem leave_nil (u : Int) (w : World) :
    Calls Try.prog 21 #[.pointer none, .int .u32 u] w fun ex w' => ex = .returned (.slice none 0 0) ∧ Below w.heap.size w w' := by
  have hl := fun fv wx => list_nil fv wx
  have eg34 : ∀ args w, (callFunc 34 args).run Try.prog w = .ok (.enter 34 args) w := enters_of Try.func34 (by kernel_rfl) rfl
  have hS := fun (wx : World) => sort_ents 34 eg34 less2 (w := wx) (base := 0) (sa := none) (cap := 0) (l := []) (s := []) ⟨by simp [entCells], .inl ⟨rfl, rfl⟩⟩ (List.Perm.refl _) List.Pairwise.nil (by simp) (by simp)
  have HS := Lib.hid hS
  clear hS eg34
  go_enter Try.func21, Try.ntmps21
  go_upto_region 3 with (go_at_call 10; refine (hl _ _).mono ?_; rintro ex w1 ⟨rfl, rfl⟩)
  refine wp_loop_rounds 1 ?_
  rw [rounds_succ]
  go_wp2_with (go_at_call 27; go_must (refine (HS.out _).mono ?_); rintro e w2 ⟨rfl, hs2, hr2⟩; have HS2 := Lib.hid hs2; clear hs2 hr2)
  go_ret
  refine ⟨rfl, ?_⟩
  have h2 := HS2.out
  have hb : Below w.heap.size w (w.alloc (.cells #[.int .u32 u] 33)) := (Below.refl _ _).alloc (Nat.le_refl _) _
  exact ⟨h2.os, h2.tape, h2.output, by have := h2.size; simp at this; omega, fun k hk => (h2.block k (by simp; omega) (by simp [Value.ownBlock])).trans (hb.block k hk)⟩

set_option maxRecDepth 100000 in
theorem leave_any {w : World} {p mb : Nat} {st : FS} (h : Fo w p mb st) (hO : st.Ok) (u : Int) :
    Calls Try.prog 21 #[.pointer (some ⟨p, 0, none⟩), .int .u32 u] w fun ex w' => ∃ sa cap, ex = .returned (.slice sa (st.out (st.l.filter (fun e => e.own == u))).length cap) ∧ Stp (FS.F p mb) w w' (FS.F p mb) ∧ Fo w' p mb (st.leaveN (st.l.filter (fun e => e.own == u))).1 ∧
      Rd w' 8 (.slice sa (st.out (st.l.filter (fun e => e.own == u))).length cap) (st.out (st.l.filter (fun e => e.own == u))).length (entCells (st.out (st.l.filter (fun e => e.own == u)))) := by
  have eg : ∀ args w, (callFunc 33 args).run Try.prog w = .ok (.enter 33 args) w := enters_of Try.func33 (by kernel_rfl) rfl
  have hl := list_any (h.below ((Below.refl _ _).alloc (Nat.le_refl _) (.cells #[.int .u32 u] 33))) hO _ #[.pointer (some ⟨w.heap.size, 0, none⟩)] (fun e => e.own == u) eg (pred_own1 (B := w.heap.size) (x := u) (by go_simp) (by simp) st.l)
  have hsub : ∀ e ∈ st.l.filter (fun e => e.own == u), e.h.ok := fun e he => (hO.hok e (List.mem_filter.1 he).1).1
  have hlen : (st.l.filter (fun e => e.own == u)).length ≤ 1000000 := Nat.le_trans (List.length_filter_le _ _) hO.len
  generalize st.l.filter (fun e => e.own == u) = own at hl hsub hlen ⊢
  obtain ⟨i0, hi, hz0, hz1, hz2⟩ := info_parts info_ent
  have HIN := Lib.hid (And.intro hi (And.intro hz0 (And.intro hz1 hz2)))
  have HL := Lib.hid hl
  have HO := Lib.hid (And.intro hO hsub)
  have HF := Lib.hid h
  have hpl := h.lt
  have hml := h.mp.lt
  have hne := h.ne
  clear hl eg hO h hi hz0 hz1 hz2 hsub
  go_enter Try.func21, Try.ntmps21
  go_upto_region 3 with (go_at_call 10; go_must (refine HL.out.mono ?_); rintro ex w2 ⟨sa, cap, rfl, hb, hr, hf⟩; have hz2 : w.heap.size + 1 ≤ w2.heap.size := (by have := hb.size; simpa using this); have HB := Lib.hid (And.intro (((Below.refl w.heap.size w).alloc (Nat.le_refl _) (.cells #[.int .u32 u] 33)).trans (hb.mono (by simp))) (And.intro hr hf)); clear hb hr hf)
  go_loopw [5, 12] (fun v i wr => LvRel w p mb w2.heap.size st own sa cap v i wr) (fun _ i _ => own.length - (intOf i).toNat)
  case atStart =>
    exact ⟨0, none, 0, Nat.zero_le _, rfl, rfl, HF.out.below HB.out.1, Stp.of_below HB.out.1, Nat.le_refl _, ⟨by simp [FS.leaveN, entCells], .inl ⟨rfl, rfl⟩⟩, HB.out.2.1⟩
  case round =>
    obtain ⟨k, oa, oc, hkn, rfl, rfl, hf, hs, hz, ho, hr⟩ := hrel
    obtain ⟨hok, hsb, hper⟩ := leaveN_ok st HO.out.1 (own.take k)
    by_cases hlt : k < own.length
    · have hsn := leaveN_snoc st own k hlt
      rcases hr.2 with ⟨hv, hn0⟩ | ⟨g, off, cap', hv, hnc, hgl', hgc⟩
      · omega
      · simp only [Value.slice.injEq] at hv
        obtain ⟨rfl, _, rfl⟩ := hv
        obtain ⟨e, he⟩ : ∃ e, own[k]? = some e := ⟨own[k], List.getElem?_eq_getElem hlt⟩
        rw [(List.getElem?_eq_some_iff.1 he).2] at hsn
        have hko := HO.out.2 e (List.mem_of_getElem? he)
        have hg2 : g < w2.heap.size := HB.out.2.1.lt rfl
        have hgw : w.heap.size ≤ g := by have := HB.out.2.2 g rfl; simp at this; omega
        obtain ⟨c0, c1, c2, c3, c4, c5, c6, c7⟩ := ent_cells (cap := cap) hgc he
        have hsz1 : (st.leaveN (own.take k)).2.length + ((st.leaveN (own.take k)).1.step e.h).2.length ≤ 1000000 := by
          have h1 := hper.length_eq
          have h2 := ((st.leaveN (own.take k)).1.step_perm e.h).length_eq
          have h3 := HO.out.1.len
          simp only [List.length_append] at h1 h2
          omega
        clear hper hsb
        generalize (st.leaveN (own.take k)).1 = s1 at *
        generalize (st.leaveN (own.take k)).2 = o1 at *
        obtain ⟨⟨e0, e1⟩, e2, e3, e4, ⟨e5, e6⟩, e7⟩ := e
        simp only at c0 c1 c2 c3 c4 c5 c6 c7 hko
        have hrv := revoke_any (hf.below ((Below.refl _ _).alloc (Nat.le_refl _) (.cells #[.int .u64 e0, .int .u64 e1, .int .i64 e2, .int .u8 e3, .int .u32 e4, .int .u64 e5, .int .u64 e6, .int .i64 e7] 35))) hok ⟨e0, e1⟩ hko
        simp only at hsn hsz1
        generalize (s1.step ⟨e0, e1⟩).1 = s2 at *
        generalize (s1.step ⟨e0, e1⟩).2 = o2 at *
        have hob : ∀ q, (Value.slice oa o1.length oc).ownBlock = some q → w2.heap.size ≤ q ∧ q < wr.heap.size := ho.lt
        have HS := Lib.hid (And.intro hsn (And.intro hf (And.intro hs (And.intro ho (And.intro hr hob)))))
        have HOK := Lib.hid (And.intro hok hsz1)
        have HRV := Lib.hid hrv
        clear hgc he hsn hf hs ho hr hok hsz1 hrv hko hob
        go_upto_region 5 with (fail)
        go_wp2_with (first | (go_at_call 17; go_must (refine HRV.out.mono ?_); rintro ex w3 ⟨ra, rc, rfl, hs3, hf3, hr3, hg3⟩; have hz3 : wr.heap.size + 1 ≤ w3.heap.size := (by have := hs3.size; simpa using this); have ho3 : w3.ownsRow w2.heap.size 35 8 (.slice oa o1.length oc) o1.length (entCells o1) := owns_stp (HS.out.2.2.2.1.alloc _) hs3 (fun q hq hF => by have := (HS.out.2.2.2.2.2 q hq).1; rcases hF with hF | hF <;> omega); have HR3 := Lib.hid (And.intro hs3 (And.intro hf3 (And.intro hr3 (And.intro hg3 ho3)))); clear hs3 hf3 hr3 hg3 ho3) | (at_builtin; go_must (refine wpList_append2 _ rfl (.tmp 16) (.tmp 20) 38 rfl w2.heap.size 35 i0 (.agg #[.int .u64 0, .int .u64 0, .int .i64 0, .int .u8 0, .int .u32 0, .int .u64 0, .int .u64 0, .int .i64 0]) 8 56 Try.underlying38 HIN.out.1 HIN.out.2.1 HIN.out.2.2.1 HIN.out.2.2.2 rfl (by decide) (.slice oa o1.length oc) o1.length (entCells o1) rfl HR3.out.2.2.2.2 (.slice ra o2.length rc) o2.length (entCells o2) rfl HR3.out.2.2.1 (by intro u hu; simp [entCells, Ent.cells] at hu; obtain ⟨x, _, hx⟩ := hu; rcases hx with rfl | rfl | rfl | rfl | rfl | rfl | rfl | rfl <;> rfl) (by have := HOK.out.2; unfold maxLen; omega) (by have := HOK.out.2; omega) (by omega) ?_); intro a' c' w5 ho5 hg5 hb5; have H5 := Lib.hid (And.intro ho5 hg5); clear ho5 hg5 hb5))
        obtain ⟨hsn, hf, hs, ho, hr, hob⟩ := HS.out
        obtain ⟨hs3, hf3, hr3, hg3, ho3⟩ := HR3.out
        obtain ⟨ho5, hg5⟩ := H5.out
        have hz5 := hg5.size
        go_roundw
        case measure => simp [intOf]; omega
        case rel =>
          refine ⟨k + 1, a', c', by omega, by go_num, by rw [hsn, List.length_append], ?_, ?_, by omega, ?_, ?_⟩
          · rw [hsn]
            exact hf3.same (hg5.block p hf3.lt (fun e => by have := (hob p e.symm).1; omega)) (hg5.block mb hf3.mp.lt (fun e => by have := (hob mb e.symm).1; omega))
          · exact ((hs.alloc _).trans hs3).grown hg5 (fun j hj hjw => by have := (hob j hj).1; omega)
          · rw [hsn]
            simp only [List.length_append]
            unfold entCells at ho5 ⊢
            rw [List.flatMap_append]
            exact ho5
          · refine hr.same (by omega) (fun q hq => ?_)
            have hqg : q = g := by simpa [Value.ownBlock] using hq.symm
            subst hqg
            rw [hg5.block q (by omega) (fun e => by have := (hob q e.symm).1; omega), hs3.block q (by simp; omega) (fun e => by rcases e with e | e <;> omega), Below.heap_alloc _ _ _ hgl']
    · have hkk : k = own.length := by omega
      subst hkk
      rw [List.take_length] at hf ho
      have hpm := out_perm st HO.out.1 own
      have hlo : (st.leaveN own).2.length = (st.out own).length := hpm.length_eq.symm
      have hle : (st.leaveN own).2.length ≤ 1000000 := by
        have h1 := List.length_filter_le (fun e => decide (e ∉ (st.leaveN own).1.l)) st.l
        have h2 := HO.out.1.len
        rw [hlo]
        unfold FS.out
        omega
      have eg34 : ∀ args w, (callFunc 34 args).run Try.prog w = .ok (.enter 34 args) w := enters_of Try.func34 (by kernel_rfl) rfl
      have hob : ∀ q, (Value.slice oa (st.leaveN own).2.length oc).ownBlock = some q → w2.heap.size ≤ q := fun q hq => (ho.lt q hq).1
      have hS := sort_ents 34 eg34 less2 ho hpm (HO.out.1.ord.filter _) hle (fun e he => by
        have h5 := HO.out.1.bnd e (List.mem_filter.1 he).1
        have h6 := HO.out.1.next.2
        omega)
      have HS := Lib.hid (And.intro hf (And.intro hs hob))
      have HSS := Lib.hid hS
      have HLO := Lib.hid hlo
      clear hf hs ho hr hS hok hsb hper hpm hlo hle eg34 hob
      rw [List.take_length]
      go_wp2_with (go_at_call 27; go_must (refine HSS.out.mono ?_); rintro e w4 ⟨rfl, hs4, hr4⟩)
      go_ret
      rw [HLO.out] at hs4 hr4 ⊢
      have hob := HS.out.2.2
      rw [HLO.out] at hob
      refine ⟨oa, oc, rfl, ?_, ?_, hr4⟩
      · exact ⟨hs4.os.trans HS.out.2.1.os, hs4.tape.trans HS.out.2.1.tape, hs4.output.trans HS.out.2.1.output, Nat.le_trans HS.out.2.1.size hs4.size, fun j hj hn => by
          rw [hs4.block j (by have := HS.out.2.1.size; omega) (fun e => by have := hob j e; omega)]
          exact HS.out.2.1.block j hj hn, fun j hj hf => hf⟩
      · exact HS.out.1.same (hs4.block p HS.out.1.lt (fun e => by have := hob p e; omega)) (hs4.block mb HS.out.1.mp.lt (fun e => by have := hob mb e; omega))
end
end Go.Proofs.Ytoeeobebkalglaa
