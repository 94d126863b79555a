/- A walk of the law ForestRights: it returns true, whatever is asked. -/
import Derived.Test.YtoeeobebkalglaaFrp
import Derived.Test.YtoeeobebkalglaaOpn
import Derived.IntWalk
namespace Go.Ease
open Go.RowKit
structure Actv where
  kind : Int
  h : Int
  n : Int
  who : Int
  to : Int
  rts : Int
  obj : Int
def Actv.cells (a : Actv) : List Value := [.int .u8 a.kind, .int .i64 a.h, .int .i64 a.n, .int .u32 a.who, .int .u32 a.to, .int .u8 a.rts, .int .i64 a.obj]
theorem Actv.cells_len (a : Actv) : a.cells.length = 7 := rfl
def actCells (l : List Actv) : List Value := l.flatMap Actv.cells
theorem actCells_len (l : List Actv) : (actCells l).length = l.length * 7 := flat_len 7 _ Actv.cells_len l
/-- An act whose numbers fit their kinds. -/
def Actv.ok (a : Actv) : Prop := (0 ≤ a.kind ∧ a.kind < 256) ∧ (-9223372036854775808 ≤ a.h ∧ a.h < 9223372036854775808) ∧ (-9223372036854775808 ≤ a.n ∧ a.n < 9223372036854775808) ∧ (0 ≤ a.who ∧ a.who < 4294967296) ∧ (0 ≤ a.to ∧ a.to < 4294967296) ∧ (0 ≤ a.rts ∧ a.rts < 256) ∧ (-9223372036854775808 ≤ a.obj ∧ a.obj < 9223372036854775808)
theorem act_cells {w : World} {g off : Nat} {l : List Actv} (h : ∀ j u, (actCells l)[j]? = some u → w.cell? ⟨g, off + j, none⟩ = some u) {k : Nat} {e : Actv} (hk : l[k]? = some e) :
    w.cell? ⟨g, off + k * 7, none⟩ = some (.int .u8 e.kind) ∧ w.cell? ⟨g, off + k * 7 + 1, none⟩ = some (.int .i64 e.h) ∧ w.cell? ⟨g, off + k * 7 + 2, none⟩ = some (.int .i64 e.n) ∧ w.cell? ⟨g, off + k * 7 + 3, none⟩ = some (.int .u32 e.who) ∧
    w.cell? ⟨g, off + k * 7 + 4, none⟩ = some (.int .u32 e.to) ∧ w.cell? ⟨g, off + k * 7 + 5, none⟩ = some (.int .u8 e.rts) ∧ w.cell? ⟨g, off + k * 7 + 6, none⟩ = some (.int .i64 e.obj) := by
  have e1 : ∀ c, c < 7 → (actCells l)[k * 7 + c]? = e.cells[c]? := fun c hc => by
    unfold actCells
    rw [flat_get 7 Actv.cells Actv.cells_len l k c hc, hk]; rfl
  have e2 : ∀ c u, c < 7 → e.cells[c]? = some u → w.cell? ⟨g, off + k * 7 + c, none⟩ = some u := fun c u hc hu => by
    rw [Nat.add_assoc]; exact h _ _ ((e1 c hc).trans hu)
  exact ⟨e2 0 _ (by omega) rfl, e2 1 _ (by omega) rfl, e2 2 _ (by omega) rfl, e2 3 _ (by omega) rfl, e2 4 _ (by omega) rfl, e2 5 _ (by omega) rfl, e2 6 _ (by omega) rfl⟩
end Go.Ease
namespace Go.Proofs.Ytoeeobebkalglaa
open Go.RowKit Go.Ease

section
set_option maxHeartbeats 1000000
theorem pred_r1 (w : World) (l : List Ent) : PredOn w l 11 #[] (fun _ => true) := by
  intro e he wx hx
  obtain ⟨⟨e0, e1⟩, e2, e3, e4, ⟨e5, e6⟩, e7⟩ := e
  show Calls Try.prog 11 #[.agg #[.int .u64 e0, .int .u64 e1, .int .i64 e2, .int .u8 e3, .int .u32 e4, .int .u64 e5, .int .u64 e6, .int .i64 e7]] wx _
  clear he hx
  go_enter Try.func11, Try.ntmps11
  go_wp2
  go_ret
  refine ⟨rfl, ?_⟩
  (repeat' (first | exact Below.refl _ _ | refine Below.drew ?_ | refine Below.setCell ?_ (by simp <;> omega) _ | refine Below.alloc ?_ (by simp <;> omega) _))

theorem pred_r2 (w : World) (l : List Ent) : PredOn w l 13 #[] (fun _ => true) := by
  intro e he wx hx
  obtain ⟨⟨e0, e1⟩, e2, e3, e4, ⟨e5, e6⟩, e7⟩ := e
  show Calls Try.prog 13 #[.agg #[.int .u64 e0, .int .u64 e1, .int .i64 e2, .int .u8 e3, .int .u32 e4, .int .u64 e5, .int .u64 e6, .int .i64 e7]] wx _
  clear he hx
  go_enter Try.func13, Try.ntmps13
  go_wp2
  go_ret
  refine ⟨rfl, ?_⟩
  (repeat' (first | exact Below.refl _ _ | refine Below.drew ?_ | refine Below.setCell ?_ (by simp <;> omega) _ | refine Below.alloc ?_ (by simp <;> omega) _))

/-- Is it the handle? -/
theorem pred_r3 {w : World} {B : Nat} {x0 x1 : Int} (h5 : w.cell? ⟨B, 5, none⟩ = some (.int .u64 x0)) (h6 : w.cell? ⟨B, 6, none⟩ = some (.int .u64 x1)) (hlt : B < w.heap.size) (l : List Ent) :
    PredOn w l 15 #[.pointer (some ⟨B, 0, none⟩)] (fun e => decide (e.h = ⟨x0, x1⟩)) := by
  intro e he wx hx
  have hc5 : wx.cell? ⟨B, 5, none⟩ = some (.int .u64 x0) := by rw [World.cell?_of_block (w := w) (a := ⟨B, 5, none⟩) (hx.block B hlt)]; exact h5
  have hc6 : wx.cell? ⟨B, 6, none⟩ = some (.int .u64 x1) := by rw [World.cell?_of_block (w := w) (a := ⟨B, 6, none⟩) (hx.block B hlt)]; exact h6
  have hl : B < wx.heap.size := Nat.lt_of_lt_of_le hlt hx.size
  obtain ⟨⟨e0, e1⟩, e2, e3, e4, ⟨e5, e6⟩, e7⟩ := e
  have hd : decide ((Hd.mk e0 e1) = ⟨x0, x1⟩) = (e0 == x0 && e1 == x1) := by
    by_cases a : e0 = x0 <;> by_cases b : e1 = x1 <;> simp [a, b]
  show Calls Try.prog 15 #[.agg #[.int .u64 e0, .int .u64 e1, .int .i64 e2, .int .u8 e3, .int .u32 e4, .int .u64 e5, .int .u64 e6, .int .i64 e7], .pointer (some ⟨B, 0, none⟩)] wx fun ex w' => ex = .returned (.bool (decide ((Hd.mk e0 e1) = ⟨x0, x1⟩))) ∧ Below wx.heap.size wx w'
  rw [hd]
  clear he hx h5 h6 hlt hd
  go_enter Try.func15, Try.ntmps15
  go_wp2
  -- RWBODY
  all_goals go_ret
  all_goals refine ⟨by simp [*], ?_⟩
  all_goals (repeat' (first | exact Below.refl _ _ | refine Below.drew ?_ | refine Below.setCell ?_ (by simp <;> omega) _ | refine Below.alloc ?_ (by simp <;> omega) _))

theorem actent_cells {w : World} {b c : Nat} {a0 a1 a2 a3 a4 a5 a6 e0 e1 e2 e3 e4 e5 e6 e7 : Value} {t t' : TypeId} (h : w.heap[b]? = some (.cells #[a0, a1, a2, a3, a4, a5, a6] t (0, 0))) (k : w.heap[c]? = some (.cells #[e0, e1, e2, e3, e4, e5, e6, e7] t' (0, 0))) :
    (w.cell? ⟨c, 0, none⟩ = some e0 ∧ w.cell? ⟨c, 1, none⟩ = some e1 ∧ w.cell? ⟨c, 4, none⟩ = some e4) ∧ w.cell? ⟨b, 4, none⟩ = some a4 ∧ w.cell? ⟨b, 5, none⟩ = some a5 := by
  refine ⟨⟨?_, ?_, ?_⟩, ?_, ?_⟩ <;> first | (rw [cell_of_row w b _ _ _ _ h]; rfl) | (rw [cell_of_row w c _ _ _ _ k]; rfl)

/-- One round's making. -/
theorem deleg_step {w : World} {p mb : Nat} {st : FS} {r0 : Int} {i : Nat} (hF : Fo w p mb st) (hI : RInv r0 i st) (hi : i ≤ 100) (e : Ent) (he : e ∈ st.l) (to want : Int) (hw : 0 ≤ want ∧ want < 256) :
    Calls Try.prog 12 #[.pointer (some ⟨p, 0, none⟩), e.h.v, .int .u32 e.own, (⟨0, (i : Int) + 2⟩ : Hd).v, .int .u32 to, .int .u8 want] w fun x w' => ∃ n st', x = .returned (.int .i64 n) ∧ Stp (FS.F p mb) w w' (FS.F p mb) ∧ Fo w' p mb st' ∧ RInv r0 (i + 1) st' := by
  have hf := FS.find_mem hI.ok he
  have hr := hI.each e he
  have hr2 : 0 ≤ e.rts ∧ e.rts < 256 := ⟨hr.2.2.1, by omega⟩
  by_cases hx : (attB e.rts want).2 = 0
  · obtain ⟨h1, h2, h3, _, _⟩ := attB_ok hx
    refine (deleg_ok hF hI.ok e.h ⟨0, i + 2⟩ (hI.ok.hok e he).1 (by simp only [Hd.ok]; omega) to want e hf hr2 ⟨hw.1, h3⟩ h1 (by simp; omega) hI.fresh (by have := hI.leni; omega)).mono ?_
    rintro x w' ⟨rfl, hs, hf'⟩
    exact ⟨_, _, rfl, hs, hf', hI.dele hi he want to hw hx⟩
  · refine (deleg_att hF e.h ⟨0, i + 2⟩ (hI.ok.hok e he).1 to want e hf hr2 hw _ rfl hx).mono ?_
    rintro x w' ⟨rfl, hb⟩
    exact ⟨_, _, rfl, Stp.of_below hb, hF.below hb, hI.stay⟩

theorem rinv_first {r0 : Int} (hr : 0 ≤ r0 ∧ r0 < 32) : RInv r0 0 (FS.root ⟨[], 0⟩ ⟨⟨0, 1⟩, 3, r0, 1, ⟨0, 0⟩, 0⟩) := by
  refine ⟨exOk.root _ (by simp [Hd.ok]) (by rfl) (by decide) (by decide), by simp [FS.root], by simp [FS.root], ⟨[], rfl⟩, ?_, ?_⟩
  · intro e he
    simp only [FS.root, List.nil_append, List.mem_singleton] at he
    subst he
    exact ⟨hasB_refl _ (by omega), rfl, hr.1, by simp only; omega, fun h => by simp at h⟩
  · intro e he
    simp only [FS.root, List.nil_append, List.mem_singleton] at he
    subst he
    exact ⟨rfl, by simp, by simp⟩

/-- What the law's first loop has done. -/
def RelA (w : World) (p mb : Nat) (r0 : Int) (n : Nat) (i : Value) (wr : World) : Prop :=
  ∃ (k : Nat) (st : FS), k ≤ n ∧ i = .int .i64 k ∧ RInv r0 k st ∧ Fo wr p mb st ∧ Below w.heap.size w wr

/-- What its second loop has done. -/
def RelB (w : World) (p mb : Nat) (st : FS) (sa : Option Addr) (cap : Nat) (i : Value) (wr : World) : Prop :=
  ∃ k : Nat, k ≤ st.l.length ∧ i = .int .i64 k ∧ Fo wr p mb st ∧ Below w.heap.size w wr ∧ Rd wr 8 (.slice sa st.l.length cap) st.l.length (entCells st.l)

theorem filter_uniq {l : List Ent} (h : (l.map (fun e => e.h)).Nodup) {p : Ent} (hp : p ∈ l) : l.filter (fun x => decide (x.h = p.h)) = [p] := by
  induction l with
  | nil => cases hp
  | cons a l ih =>
    rw [List.map_cons, List.nodup_cons] at h
    by_cases ha : a.h = p.h
    · have hpa : p = a := by
        rcases List.mem_cons.1 hp with rfl | hp'
        · rfl
        · exact absurd (List.mem_map.2 ⟨p, hp', ha.symm⟩) h.1
      subst hpa
      have : l.filter (fun x => decide (x.h = p.h)) = [] := List.filter_eq_nil_iff.2 fun x hx => by
        simp only [decide_eq_true_eq]
        exact fun e => h.1 (List.mem_map.2 ⟨x, hx, e⟩)
      rw [List.filter_cons_of_pos (by simp), this]
    · rw [List.filter_cons_of_neg (by simpa using ha)]
      refine ih h.2 ?_
      rcases List.mem_cons.1 hp with rfl | hp'
      · exact absurd rfl ha
      · exact hp'

set_option maxRecDepth 100000 in
theorem rights_true {w : World} (r : Int) (hr : 0 ≤ r ∧ r < 256) {va : Option Addr} {vc : Nat} (l : List Actv) (hl : ∀ a ∈ l, a.ok) (hv : Ra w 7 (.slice va l.length vc) l.length (actCells l)) :
    Calls Try.prog 3 #[.int .u8 r, .slice va l.length vc] w fun e w' => e = .returned (.bool true) ∧ Below w.heap.size w w' := by
  have HLV := Lib.hid lives_true
  have HV := Lib.hid hv
  have HOK := Lib.hid hl
  clear hv hl
  by_cases h100 : 100 < l.length
  · have h100' : (100 : Int) < (l.length : Int) := by omega
    go_enter Try.func3, Try.ntmps3
    have H := Lib.hid (Below.refl w.heap.size w)
    go_wp2_with (go_at_call 6; go_must (refine (HLV.out _).mono ?_); rintro e w1 ⟨rfl, hb⟩; have H := Lib.hid (show Below w.heap.size w w1 from H.out.trans (hb.mono H.out.size)); clear hb)
    go_ret
    exact ⟨rfl, H.out⟩
  · have hh1 := handle_any 1 (by decide)
    simp only [Hd.v] at hh1
    have h100' : ¬ (100 : Int) < (l.length : Int) := by omega
    have hrm : 0 ≤ r % 32 ∧ r % 32 < 32 := by omega
    have hR := fun (wx : World) (p mb : Nat) (hx : Fo wx p mb ⟨[], 0⟩) => root_ok hx exOk ⟨⟨0, 1⟩, 3, r % 32, 1, ⟨0, 0⟩, 0⟩ (by simp [Hd.ok]) (by simp only; omega) (by simp) (by rfl) (by simp only; omega) (by decide)
    have HH := Lib.hid hh1
    have HR := Lib.hid hR
    clear hh1 hR
    go_enter Try.func3, Try.ntmps3
    go_upto_region 7 with (first | (go_at_call 6; go_must (refine (HLV.out _).mono ?_); rintro e w1 ⟨rfl, hb⟩; have H1 := Lib.hid hb; clear hb) | (go_at_call 7; go_must (refine (new_any _).mono ?_); rintro e w2 ⟨rfl, hb, hf⟩; have H2 := Lib.hid (And.intro (H1.out.trans (hb.mono H1.out.size)) hf); clear hb hf) | (go_at_call 9; go_must (refine (HH.out _).mono ?_); rintro e w3 ⟨rfl, hb⟩; have H3 := Lib.hid (And.intro (H2.out.1.trans (hb.mono H2.out.1.size)) (H2.out.2.below hb)); clear hb) | (go_at_call 8; go_must (refine (HR.out _ _ _ H3.out.2).mono ?_); rintro e w4 ⟨rfl, hs, hf⟩; have H4 := Lib.hid (And.intro (H3.out.1.trans (hs.to_below _ H3.out.1.size (fun k hk => by have := H1.out.size; rcases hk with hk | hk <;> omega))) hf); clear hs hf))
    have hI0 := rinv_first hrm
    have HI0 := Lib.hid hI0
    clear hI0
    have hw1z := H1.out.size
    have hpz : ∀ k, FS.F (w1.heap.size + 1) w1.heap.size k → w.heap.size ≤ k := fun k hk => by rcases hk with hk | hk <;> omega
    have HPZ := Lib.hid hpz
    clear hpz
    have hb4 := H4.out.1
    have hf4 := H4.out.2
    generalize w1.heap.size + 1 = p at *
    generalize w1.heap.size = mb at *
    generalize hr0 : r % 32 = r0 at *
    have HR0 := Lib.hid hr0
    clear hr0
    have H4 := Lib.hid (And.intro hb4 hf4)
    clear hb4 hf4 H2 H3 HR
    have hv2 := HV.out.2
    have HV2 := Lib.hid hv2
    clear hv2
    go_loopw [32] (fun i wr => RelA w p mb r0 l.length i wr) (fun i _ => l.length - (intOf i).toNat)
    case atStart => exact ⟨0, _, Nat.zero_le _, rfl, HI0.out, H4.out.2, H4.out.1⟩
    case round =>
      obtain ⟨k, st, hk, rfl, hI, hf, hb⟩ := hrel
      by_cases hlt : k < l.length
      · rcases HV2.out with hn0 | ⟨g, off, cap', hv, hnc, hgl, hgc⟩
        · omega
        · simp only [Value.slice.injEq] at hv
          obtain ⟨rfl, _, rfl⟩ := hv
          obtain ⟨a, ha⟩ : ∃ a, l[k]? = some a := ⟨l[k], List.getElem?_eq_getElem hlt⟩
          have haok := HOK.out a (List.mem_of_getElem? ha)
          obtain ⟨a0, a1, a2, a3, a4, a5, a6⟩ := a
          have hcs := act_cells hgc ha
          simp only at hcs haok
          have hgo : g < w.heap.size := hgl
          obtain ⟨b0, b1, b2, b3, b4, b5, b6⟩ : wr.cell? ⟨g, off + k * 7, none⟩ = some (.int .u8 a0) ∧ wr.cell? ⟨g, off + k * 7 + 1, none⟩ = some (.int .i64 a1) ∧ wr.cell? ⟨g, off + k * 7 + 2, none⟩ = some (.int .i64 a2) ∧ wr.cell? ⟨g, off + k * 7 + 3, none⟩ = some (.int .u32 a3) ∧ wr.cell? ⟨g, off + k * 7 + 4, none⟩ = some (.int .u32 a4) ∧ wr.cell? ⟨g, off + k * 7 + 5, none⟩ = some (.int .u8 a5) ∧ wr.cell? ⟨g, off + k * 7 + 6, none⟩ = some (.int .i64 a6) := by
            refine ⟨?_, ?_, ?_, ?_, ?_, ?_, ?_⟩ <;> (rw [World.cell?_of_block (w := w) (hb.block g hgo)])
            · exact hcs.1
            · exact hcs.2.1
            · exact hcs.2.2.1
            · exact hcs.2.2.2.1
            · exact hcs.2.2.2.2.1
            · exact hcs.2.2.2.2.2.1
            · exact hcs.2.2.2.2.2.2
          have hft : st.l.filter (fun _ => true) = st.l := List.filter_eq_self.2 (fun _ _ => rfl)
          have eg : ∀ args w, (callFunc 11 args).run Try.prog w = .ok (.enter 11 args) w := enters_of Try.func11 (by kernel_rfl) rfl
          have hl := fun (wx : World) (hx : Fo wx p mb st) => list_any hx hI.ok _ #[] (fun _ => true) eg (pred_r1 wx st.l)
          rw [hft] at hl
          have HL := Lib.hid hl
          have HA := Lib.hid haok
          have HS := Lib.hid (And.intro hI (And.intro hf hb))
          have hsz := hb.size
          have hpw := hf.lt
          have hmw := hf.mp.lt
          clear hgc ha hcs haok hft eg hl hI hf hb
          go_upto_region 10 with (go_at_call 10; go_must (refine (HL.out _ (by exact HS.out.2.1.below ((Below.refl _ _).alloc (Nat.le_refl _) _))).mono ?_); rintro e w5 ⟨sa, cap, rfl, hb5, hr5, -⟩; have H5 := Lib.hid (And.intro hb5 hr5); clear hb5 hr5)
          obtain ⟨hI, hf, hb⟩ := HS.out
          obtain ⟨hb5, hr5⟩ := H5.out
          have hbk := below_block hb5 (heap_alloc_new wr _)
          have hz5 : wr.heap.size + 1 ≤ w5.heap.size := by have := hb5.size; simpa using this
          have hlen1 : 1 ≤ st.l.length := by obtain ⟨t, ht⟩ := hI.head; rw [ht]; simp
          have hlen2 : st.l.length ≤ 102 := by have := hI.leni; omega
          rcases hr5.2 with ⟨hv, hn0⟩ | ⟨g5, off5, cap5, hv, hnc5, hgl5, hgc5⟩
          · omega
          · simp only [Value.slice.injEq] at hv
            obtain ⟨rfl, _, rfl⟩ := hv
            have hm0 : 0 ≤ IntKind.u64.wrap a1 % (st.l.length : Int) := Int.emod_nonneg _ (by omega)
            have hm1 : IntKind.u64.wrap a1 % (st.l.length : Int) < st.l.length := Int.emod_lt_of_pos _ (by omega)
            have hu0 : 0 ≤ IntKind.u64.wrap a1 := by simp only [IntKind.wrap, IntKind.bits, IntKind.signed]; simp; omega
            obtain ⟨m, hm', hml⟩ : ∃ m : Nat, IntKind.u64.wrap a1 % (st.l.length : Int) = m ∧ m < st.l.length := ⟨(IntKind.u64.wrap a1 % (st.l.length : Int)).toNat, by omega, by omega⟩
            have hm : wrap64 ((IntKind.u64.wrap a1).tmod (st.l.length : Int)) = m := by
              rw [Int.tmod_eq_emod_of_nonneg hu0, hm']; unfold wrap64; omega
            clear hm' hu0
            obtain ⟨e, he⟩ : ∃ e, st.l[m]? = some e := ⟨st.l[m], List.getElem?_eq_getElem hml⟩
            have hee : e ∈ st.l := List.mem_of_getElem? he
            obtain ⟨d0, d1, d2, d3, d4, d5, d6, d7⟩ := ent_cells (cap := cap) hgc5 he
            have hds := fun (wx : World) (hx : Fo wx p mb st) => deleg_step hx hI (i := k) (by omega) e hee a4 a5 HA.out.2.2.2.2.2.1
            have HDS := Lib.hid hds
            have hb5' : Below w.heap.size w w5 := (hb.alloc hsz _).trans (hb5.mono (by simp; omega))
            have hf5 : Fo w5 p mb st := (hf.below ((Below.refl _ _).alloc (Nat.le_refl _) _)).below hb5
            have HS5 := Lib.hid (And.intro hb5' hf5)
            obtain ⟨⟨e0, e1⟩, e2, e3, e4, ⟨e5, e6⟩, e7⟩ := e
            simp only at d0 d1 d2 d3 d4 d5 d6 d7
            have q1 : w5.cell? ⟨wr.heap.size, 1, none⟩ = some (.int .i64 a1) := by rw [cell_of_row w5 _ _ _ _ _ hbk]; rfl
            have q4 : w5.cell? ⟨wr.heap.size, 4, none⟩ = some (.int .u32 a4) := by rw [cell_of_row w5 _ _ _ _ _ hbk]; rfl
            have q5 : w5.cell? ⟨wr.heap.size, 5, none⟩ = some (.int .u8 a5) := by rw [cell_of_row w5 _ _ _ _ _ hbk]; rfl
            have hbk5 := fun (o : Obj) => (Below.heap_alloc w5 o wr.heap.size (by omega)).trans hbk
            have HBK := Lib.hid hbk
            clear hI hf hb hb5 hr5 hbk hm0 hm1 hgc5 he hee hds hb5' hf5
            go_upto_region 11 with (fail)
            have hwB := hbk5 (.cells #[.int .u64 e0, .int .u64 e1, .int .i64 e2, .int .u8 e3, .int .u32 e4, .int .u64 e5, .int .u64 e6, .int .i64 e7] 35)
            have hS6 : Below w.heap.size w (w5.alloc (.cells #[.int .u64 e0, .int .u64 e1, .int .i64 e2, .int .u8 e3, .int .u32 e4, .int .u64 e5, .int .u64 e6, .int .i64 e7] 35)).drew := (HS5.out.1.alloc (by omega) _).drew
            have hf6 : Fo (w5.alloc (.cells #[.int .u64 e0, .int .u64 e1, .int .i64 e2, .int .u8 e3, .int .u32 e4, .int .u64 e5, .int .u64 e6, .int .i64 e7] 35)).drew p mb st := HS5.out.2.below ((Below.refl _ _).alloc (Nat.le_refl _) _).drew
            have hz6 : w5.heap.size + 1 ≤ (w5.alloc (.cells #[.int .u64 e0, .int .u64 e1, .int .i64 e2, .int .u8 e3, .int .u32 e4, .int .u64 e5, .int .u64 e6, .int .i64 e7] 35)).drew.heap.size := by simp
            have hB6 : (w5.alloc (.cells #[.int .u64 e0, .int .u64 e1, .int .i64 e2, .int .u8 e3, .int .u32 e4, .int .u64 e5, .int .u64 e6, .int .i64 e7] 35)).drew.heap[w5.heap.size]? = some (.cells #[.int .u64 e0, .int .u64 e1, .int .i64 e2, .int .u8 e3, .int .u32 e4, .int .u64 e5, .int .u64 e6, .int .i64 e7] 35 (0, 0)) := heap_alloc_new w5 _
            have hsum : IntKind.i64.wrap (2 + (k : Int)) = (k : Int) + 2 := by rw [IntWalk.i64_in _ (by omega)]; omega
            have hh := handle_any ((k : Int) + 2) (by omega)
            simp only [Hd.v] at hh
            have HHK := Lib.hid hh
            have HWB := Lib.hid (And.intro hwB (And.intro hB6 (And.intro hS6 hf6)))
            clear q1 q4 q5 d0 d1 d2 d3 d4 d5 d6 d7 hh hm hwB hB6 hS6 hf6
            refine wp_region_ord (fun w' => (w'.cell? ⟨w5.heap.size, 0, none⟩ = some (.int .u64 e0) ∧ w'.cell? ⟨w5.heap.size, 1, none⟩ = some (.int .u64 e1) ∧ w'.cell? ⟨w5.heap.size, 4, none⟩ = some (.int .u32 e4)) ∧ w'.cell? ⟨wr.heap.size, 4, none⟩ = some (.int .u32 a4) ∧ w'.cell? ⟨wr.heap.size, 5, none⟩ = some (.int .u8 a5)) 13 [(0,0),(1,0),(2,0),(3,0),(4,0),(5,0),(6,0),(8,0),(9,0),(10,0),(11,0),(7,1),(12,1)] (by kernel_rfl) (by kernel_rfl) (fun c a d v w h => by cases d <;> exact h) ?_ ?_
            · exact actent_cells HWB.out.1 HWB.out.2.1
            repeat (first | (refine wpOrd_skip rfl rfl ?_; simp only [Act.put, List.setIfInBounds_toArray, List.set_cons_succ, List.set_cons_zero]) | (refine wpOrd_pure rfl rfl ?_; apply Exists.intro; refine ⟨fun wq => ?_, ?_⟩; (go_simp <;> rfl); simp only [Act.put, List.setIfInBounds_toArray, List.set_cons_succ, List.set_cons_zero]) | (refine wpOrd_read rfl rfl (by decide) ?_; apply Exists.intro; refine ⟨fun wq hq => ?_, ?_⟩; (go_simp <;> rfl); simp only [Act.put, List.setIfInBounds_toArray, List.set_cons_succ, List.set_cons_zero]))
            refine wpOrd_act rfl (by decide) (fun K hK => ?_)
            go_wp2_with (go_at_call 9; go_must (refine (HHK.out _).mono ?_); rintro ex w7 ⟨rfl, hb7⟩; have H7 := Lib.hid hb7; clear hb7)
            refine hK _ _ ?_ (fun hS => ?_)
            all_goals (clear hK K)
            · exact actent_cells ((H7.out.block _ (by omega)).trans HWB.out.1) ((H7.out.block _ (by omega)).trans HWB.out.2.1)
            have hf7 := HWB.out.2.2.2.below H7.out
            have hz7 := H7.out.size
            have HF7 := Lib.hid hf7
            clear hf7
            refine wpOrd_act rfl (by decide) (fun K hK => ?_)
            go_wp2_with (go_at_call 12; go_must (refine (HDS.out _ (by exact HF7.out)).mono ?_); rintro ex w8 ⟨nn, st', rfl, hs8, hf8, hI8⟩; have H8 := Lib.hid (And.intro hs8 (And.intro hf8 hI8)); clear hs8 hf8 hI8)
            refine hK _ _ ?_ (fun hS => ?_)
            all_goals (clear hK K)
            · have hn1 : ¬ FS.F p mb wr.heap.size := fun h => by rcases h with h | h <;> omega
              have hn2 : ¬ FS.F p mb w5.heap.size := fun h => by rcases h with h | h <;> omega
              exact actent_cells ((H8.out.1.block _ (by omega) hn1).trans ((H7.out.block _ (by omega)).trans HWB.out.1)) ((H8.out.1.block _ (by omega) hn2).trans ((H7.out.block _ (by omega)).trans HWB.out.2.1))
            refine wpOrd_nil ?_
            go_wp2
            go_roundw
            case measure => simp [intOf]; omega
            case rel =>
              have hb8 := (HWB.out.2.2.1.trans (H7.out.mono (by omega))).trans (H8.out.1.to_below w.heap.size (by omega) HPZ.out)
              exact ⟨k + 1, st', by omega, by go_num, H8.out.2.2, H8.out.2.1, hb8⟩
      · have hkl : k = l.length := by omega
        subst hkl
        have hft : st.l.filter (fun _ => true) = st.l := List.filter_eq_self.2 (fun _ _ => rfl)
        have eg : ∀ args w, (callFunc 13 args).run Try.prog w = .ok (.enter 13 args) w := enters_of Try.func13 (by kernel_rfl) rfl
        have hl := list_any hf hI.ok _ #[] (fun _ => true) eg (pred_r2 wr st.l)
        rw [hft] at hl
        have HL := Lib.hid hl
        have HS := Lib.hid (And.intro hI (And.intro hf hb))
        have hsz := hb.size
        have hpw := hf.lt
        have hmw := hf.mp.lt
        have hlen2 : st.l.length ≤ 102 := by have := hI.leni; omega
        clear hft eg hl hI hf hb
        go_upto_region 13 with (fail)
        go_wp2_with (go_at_call 10; go_must (refine HL.out.mono ?_); rintro e w5 ⟨sa, cap, rfl, hb5, hr5, hg5⟩; have H5 := Lib.hid (And.intro (HS.out.2.2.trans (hb5.mono hsz)) (And.intro (HS.out.2.1.below hb5) (And.intro hr5 (And.intro hg5 hb5.size)))); clear hb5 hr5 hg5)
        obtain ⟨wo, rfl⟩ : ∃ wo : World, wo = wr := ⟨_, rfl⟩
        go_loopw [67] (fun i wx => RelB w p mb st sa cap i wx) (fun i _ => st.l.length - (intOf i).toNat)
        case atStart => exact ⟨0, Nat.zero_le _, rfl, H5.out.2.1, H5.out.1, H5.out.2.2.1⟩
        case round =>
          obtain ⟨wx, rfl⟩ : ∃ wx : World, wx = wr := ⟨_, rfl⟩
          obtain ⟨j, hj, rfl, hf, hb, hr⟩ := hrel
          by_cases hlt' : j < st.l.length
          · obtain ⟨e, he⟩ : ∃ e, st.l[j]? = some e := ⟨st.l[j], List.getElem?_eq_getElem hlt'⟩
            have hee : e ∈ st.l := List.mem_of_getElem? he
            rcases hr.2 with ⟨hv, hn0⟩ | ⟨g5, off5, cap5, hv, hnc5, hgl5, hgc5⟩
            · omega
            simp only [Value.slice.injEq] at hv
            obtain ⟨rfl, _, rfl⟩ := hv
            obtain ⟨d0, d1, d2, d3, d4, d5, d6, d7⟩ := ent_cells (cap := cap) hgc5 he
            obtain ⟨hI, -, -⟩ := HS.out
            obtain ⟨hr1, hr2, hr3, hr4, hr5⟩ := hI.each e hee
            have hhas := has_any r0 e.rts
            rw [hr1, ← HR0.out] at hhas
            have HH1 := Lib.hid hhas
            have HR := Lib.hid (And.intro hf (And.intro hb hr))
            have hwz := hb.size
            have hpx := hf.lt
            have hmx := hf.mp.lt
            clear hgc5 he hI hhas hf hb hr
            by_cases ho : 0 < e.ord
            · obtain ⟨q, hq, hqh, hq3, hqo⟩ := hr5 ho
              have hbq := HS.out.1.ok.bnd q hq
              have hu : st.l.filter (fun x => decide (x.h = e.par)) = [q] := by rw [← hqh]; exact filter_uniq HS.out.1.ok.hnd hq
              have hhas2 := has_any q.rts e.rts
              rw [hq3] at hhas2
              have HH2 := Lib.hid hhas2
              obtain ⟨⟨e0, e1⟩, e2, e3, e4, ⟨e5, e6⟩, e7⟩ := e
              simp only at d0 d1 d2 d3 d4 d5 d6 d7 hr2 hr3 hr4 ho hqo hu
              subst hr2
              have hB := heap_alloc_new wx (.cells #[.int .u64 e0, .int .u64 e1, .int .i64 3, .int .u8 e3, .int .u32 e4, .int .u64 e5, .int .u64 e6, .int .i64 e7] 35)
              have eg3 : ∀ args w, (callFunc 15 args).run Try.prog w = .ok (.enter 15 args) w := enters_of Try.func15 (by kernel_rfl) rfl
              have hl3 := list_any (HR.out.1.below ((Below.refl _ _).alloc (Nat.le_refl _) (.cells #[.int .u64 e0, .int .u64 e1, .int .i64 3, .int .u8 e3, .int .u32 e4, .int .u64 e5, .int .u64 e6, .int .i64 e7] 35))) HS.out.1.ok _ #[.pointer (some ⟨wx.heap.size, 0, none⟩)] _ eg3 (pred_r3 (B := wx.heap.size) (x0 := e5) (x1 := e6) (by rw [cell_of_row _ _ _ _ _ _ hB]; rfl) (by rw [cell_of_row _ _ _ _ _ _ hB]; rfl) (by simp) st.l)
              rw [hu] at hl3
              have HL3 := Lib.hid hl3
              have HB := Lib.hid hB
              clear hu hhas2 hq hqh hq3 hB eg3 hl3 hr1 hr5 hee
              go_upto_region 19 with (first | (go_at_call 14; go_must (refine (HH1.out _).mono ?_); rintro ex w6 ⟨rfl, rfl⟩))
              go_upto_region 20 with (go_at_call 10; go_must (refine HL3.out.mono ?_); rintro ex w6 ⟨sa6, cap6, rfl, hb6, hr6, -⟩; have H6 := Lib.hid (And.intro hb6 hr6); clear hb6 hr6)
              rcases H6.out.2.2 with ⟨hv, hn0⟩ | ⟨g6, off6, cap6', hv, hnc6, hgl6, hgc6⟩
              · simp at hn0
              simp only [Value.slice.injEq] at hv
              obtain ⟨rfl, _, rfl⟩ := hv
              obtain ⟨⟨q0, q1⟩, q2, q3, q4, ⟨q5, q6⟩, q7⟩ := q
              have c3 : w6.cell? ⟨g6, off6 + 3, none⟩ = some (.int .u8 q3) := hgc6 3 _ rfl
              have c7 : w6.cell? ⟨g6, off6 + 7, none⟩ = some (.int .i64 q7) := hgc6 7 _ rfl
              have hbk6 := below_block H6.out.1 HB.out
              have b3 : w6.cell? ⟨wx.heap.size, 3, none⟩ = some (.int .u8 e3) := by rw [cell_of_row _ _ _ _ _ _ hbk6]; rfl
              have b7 : w6.cell? ⟨wx.heap.size, 7, none⟩ = some (.int .i64 e7) := by rw [cell_of_row _ _ _ _ _ _ hbk6]; rfl
              simp only at hqo hbq
              have hge : decide (e7 ≤ q7) = false := by simp; omega
              have hf6 : Fo w6 p mb st := (HR.out.1.below ((Below.refl _ _).alloc (Nat.le_refl _) _)).below H6.out.1
              have hb6 : Below w.heap.size w w6 := (HR.out.2.1.alloc hwz _).trans (H6.out.1.mono (by simp; omega))
              have hr6 : Rd w6 8 (.slice (some ⟨g5, off5, none⟩) st.l.length cap) st.l.length (entCells st.l) := HR.out.2.2.same (by have := H6.out.1.size; simp at this; omega) (fun k hk => by
                simp only [Value.ownBlock, Option.some.injEq] at hk
                subst hk
                exact (H6.out.1.block _ (by simp; omega)).trans (Below.heap_alloc _ _ _ hgl5))
              have HE6 := Lib.hid (And.intro hf6 (And.intro hb6 hr6))
              clear hgc6 hbk6 hf6 hb6 hr6
              refine wp_region_ord (fun w' => w'.cell? ⟨g6, off6 + 3, none⟩ = some (.int .u8 q3) ∧ w'.cell? ⟨g6, off6 + 7, none⟩ = some (.int .i64 q7) ∧ w'.cell? ⟨wx.heap.size, 3, none⟩ = some (.int .u8 e3) ∧ w'.cell? ⟨wx.heap.size, 7, none⟩ = some (.int .i64 e7)) 22 [(0,0),(1,0),(2,0),(3,0),(4,0),(5,0),(6,0),(7,0),(8,0),(9,0),(10,1),(11,0),(12,0),(13,0),(14,0),(15,0),(16,0),(17,0),(18,0),(19,0),(20,0),(21,0)] (by kernel_rfl) (by kernel_rfl) (fun c a d v w h => by cases d <;> exact h) ⟨c3, c7, b3, b7⟩ ?_
              repeat (first | (refine wpOrd_skip rfl rfl ?_; simp only [Act.put, List.setIfInBounds_toArray, List.set_cons_succ, List.set_cons_zero]) | (refine wpOrd_pure rfl rfl ?_; apply Exists.intro; refine ⟨fun wq => ?_, ?_⟩; (go_simp <;> rfl); simp only [Act.put, List.setIfInBounds_toArray, List.set_cons_succ, List.set_cons_zero]) | (refine wpOrd_read rfl rfl (by decide) ?_; apply Exists.intro; refine ⟨fun wq hq => ?_, ?_⟩; (go_simp <;> rfl); simp only [Act.put, List.setIfInBounds_toArray, List.set_cons_succ, List.set_cons_zero]))
              refine wpOrd_act rfl (by decide) (fun K hK => ?_)
              go_wp2_with (go_at_call 14; go_must (refine (HH2.out _).mono ?_); rintro ex w7 ⟨rfl, rfl⟩)
              refine hK _ _ ?_ (fun hS => ?_)
              all_goals (clear hK K)
              · exact ⟨c3, c7, b3, b7⟩
              repeat (first | (refine wpOrd_skip rfl rfl ?_; simp only [Act.put, List.setIfInBounds_toArray, List.set_cons_succ, List.set_cons_zero]) | (refine wpOrd_pure rfl rfl ?_; apply Exists.intro; refine ⟨fun wq => ?_, ?_⟩; (go_simp <;> rfl); simp only [Act.put, List.setIfInBounds_toArray, List.set_cons_succ, List.set_cons_zero]) | (refine wpOrd_read rfl rfl (by decide) ?_; apply Exists.intro; refine ⟨fun wq hq => ?_, ?_⟩; (go_simp <;> rfl); simp only [Act.put, List.setIfInBounds_toArray, List.set_cons_succ, List.set_cons_zero]))
              refine wpOrd_nil ?_
              go_wp2
              go_roundw
              case measure => simp [intOf]; omega
              case rel => exact ⟨j + 1, by omega, by go_num, HE6.out.1.below (Below.refl _ _).drew, HE6.out.2.1.drew, HE6.out.2.2.drewN 1⟩
            · obtain ⟨⟨e0, e1⟩, e2, e3, e4, ⟨e5, e6⟩, e7⟩ := e
              simp only at d0 d1 d2 d3 d4 d5 d6 d7 hr2 hr3 hr4 ho
              subst hr2
              go_wp2_with (first | (go_at_call 14; go_must (refine (HH1.out _).mono ?_); rintro ex w6 ⟨rfl, rfl⟩))
              go_roundw
              case measure => simp [intOf]; omega
              case rel =>
                refine ⟨j + 1, by omega, by go_num, HR.out.1.below ((Below.refl _ _).alloc (Nat.le_refl _) _), HR.out.2.1.alloc hwz _, HR.out.2.2.same (by simp) (fun k hk => ?_)⟩
                simp only [Value.ownBlock, Option.some.injEq] at hk
                subst hk
                exact Below.heap_alloc _ _ _ hgl5
          · have hjl : j = st.l.length := by omega
            subst hjl
            have hI := HS.out.1
            have hf3 : st.l.filter (fun e => e.obj == 3) = st.l := List.filter_eq_self.2 (fun e he => by rw [(hI.each e he).2.1]; rfl)
            have hall := (hI.all_in st.l.length (Nat.le_refl _)).2
            rw [List.take_length] at hall
            have hin : ∀ e ∈ st.l, e.h ∈ inSet ⟨0, 1⟩ st.l := fun e he => by
              obtain ⟨m, hm, rfl⟩ := List.getElem_of_mem he
              exact hall m _ hm (List.getElem?_eq_getElem hm)
            have hgone : st.gone ⟨0, 1⟩ = st.l := List.filter_eq_self.2 (fun e he => by simpa using hin e he)
            have hleft : st.left ⟨0, 1⟩ = [] := List.filter_eq_nil_iff.2 (fun e he => by simpa using hin e he)
            have hc1 := count_any hf hI.ok 3
            rw [hf3] at hc1
            obtain ⟨t, ht⟩ := hI.head
            have hfd : (st.find ⟨0, 1⟩).isSome = true := by
              have := FS.find_mem hI.ok (e := ⟨⟨0, 1⟩, 3, r0, 1, ⟨0, 0⟩, 0⟩) (by rw [ht]; exact List.mem_cons_self)
              simp only at this
              rw [this]; rfl
            have hv := fun (wx : World) (hx : Fo wx p mb st) => revoke_yes hx hI.ok ⟨0, 1⟩ (by simp [Hd.ok]) hfd
            rw [hgone] at hv
            have hc2 := fun (wx : World) (hx : Fo wx p mb (st.rev ⟨0, 1⟩)) => count_any hx (hI.ok.rev _) 3
            have hrl : ((st.rev ⟨0, 1⟩).l.filter (fun e => e.obj == 3)).length = 0 := by simp only [FS.rev]; rw [hleft]; rfl
            rw [hrl] at hc2
            have HC1 := Lib.hid hc1
            have HC2 := Lib.hid hc2
            have HV := Lib.hid hv
            have HR := Lib.hid (And.intro hf hb)
            have hwz := hb.size
            clear hI hf3 hall hin hgone hleft hc1 ht hfd hv hc2 hrl hf hb hr
            go_wp2_with (first | (go_at_call 16; go_must (first | (refine HC1.out.mono ?_; rintro ex w6 ⟨rfl, hb6⟩; have H6 := Lib.hid (And.intro (HR.out.2.trans (hb6.mono hwz)) (HR.out.1.below hb6)); clear hb6) | (refine (HC2.out _ H8.out.2).mono ?_; rintro ex w9 ⟨rfl, hb9⟩; have H9 := Lib.hid (H8.out.1.trans (hb9.mono H8.out.1.size)); clear hb9))) | (go_at_call 9; go_must (refine (HH.out _).mono ?_); rintro ex w7 ⟨rfl, hb7⟩; have H7 := Lib.hid (And.intro (H6.out.1.trans (hb7.mono H6.out.1.size)) (H6.out.2.below hb7)); clear hb7) | (go_at_call 17; go_must (refine (HV.out _ H7.out.2).mono ?_); rintro ex w8 ⟨sa8, cap8, rfl, hs8, hf8, -⟩; have H8 := Lib.hid (And.intro (H7.out.1.trans (hs8.to_below _ H7.out.1.size HPZ.out)) hf8); clear hs8 hf8))
            go_ret
            exact ⟨rfl, H9.out⟩
end
end Go.Proofs.Ytoeeobebkalglaa
