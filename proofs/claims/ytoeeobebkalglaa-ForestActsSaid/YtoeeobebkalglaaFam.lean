/- Walks of the law's own model: find, under, Clone, take. -/
import Derived.Test.YtoeeobebkalglaaFap
namespace Go.Ease
open Go.RowKit
theorem six_cells {w : World} {b : Nat} {c0 c1 c2 c3 c4 c5 : Value} {t : TypeId} (h : w.heap[b]? = some (.cells #[c0, c1, c2, c3, c4, c5] t (0, 0))) :
    w.cell? ⟨b, 0, none⟩ = some c0 ∧ w.cell? ⟨b, 1, none⟩ = some c1 ∧ w.cell? ⟨b, 2, none⟩ = some c2 ∧ w.cell? ⟨b, 3, none⟩ = some c3 ∧ w.cell? ⟨b, 4, none⟩ = some c4 ∧ w.cell? ⟨b, 5, none⟩ = some c5 := by
  refine ⟨?_, ?_, ?_, ?_, ?_, ?_⟩ <;> (rw [cell_of_row w b _ _ _ _ h]; rfl)
def One.v (x : One) : Value := .agg x.cells.toArray
theorem oneCells_snoc (l : List One) (x : One) : oneCells (l ++ [x]) = oneCells l ++ x.cells := by simp [oneCells]
end Go.Ease
namespace Go.Proofs.Ytoeeobebkalglaa
open Go.RowKit Go.Ease

theorem info_one : (Try.prog.info? 59).map (fun i => (i.zero, i.size, i.bytes)) = some (some (.agg #[.int .i64 0, .int .i64 0, .int .i64 0, .int .i64 0, .int .u8 0, .int .u32 0]), 6, 40) := by kernel_rfl

/-- What a question on the model's handles tells. -/
def OneOn (w : World) (l : List One) (g : Nat) (cb : Array Value) (pr : One → Bool) : Prop :=
  ∀ x ∈ l, ∀ wx, Below w.heap.size w wx → Calls Try.prog g (#[x.v] ++ cb) wx fun ex w' => ex = .returned (.bool (pr x)) ∧ Below wx.heap.size wx w'

section
set_option maxHeartbeats 1000000
/-- What IndexFunc's loop has done. -/
def IdxRel (w : World) (l : List One) (pr : One → Bool) (i : Value) (wr : World) : Prop :=
  ∃ k : Nat, k ≤ l.length ∧ i = .int .i64 k ∧ NoneB pr l k ∧ Below w.heap.size w wr

theorem indexOne_any {w : World} {sa : Option Addr} {cap : Nat} {l : List One} (hv : Rd w 6 (.slice sa l.length cap) l.length (oneCells l)) (hl : l.length ≤ 1000000) (g : Nat) (cb : Array Value) (pr : One → Bool)
    (eg : ∀ args w, (callFunc g args).run Try.prog w = .ok (.enter g args) w) (hcall : OneOn w l g cb pr) :
    Calls Try.prog 47 #[.slice sa l.length cap, .func (.func g) #[] cb] w fun e w' => e = .returned (.int .i64 (placeOf pr l)) ∧ Below w.heap.size w w' := by
  have HV := Lib.hid hv
  have HC := Lib.hid hcall
  clear hv hcall
  go_enter Try.func47, Try.ntmps47
  go_wp2_with fail
  go_loopw [8] (fun i wr => IdxRel w l pr i wr) (fun i _ => l.length - (intOf i).toNat)
  case atStart => exact ⟨0, Nat.zero_le _, rfl, NoneB.zero _ _, Below.refl _ _⟩
  case round =>
    obtain ⟨k, hk, rfl, hnb, hb⟩ := hrel
    by_cases hlt : k < l.length
    · obtain ⟨x, hx⟩ : ∃ x, l[k]? = some x := ⟨l[k], List.getElem?_eq_getElem hlt⟩
      rcases HV.out.2 with ⟨_, h0⟩ | ⟨g0, off, cap', he, _, hgl, hcc⟩
      · omega
      cases he
      have h6 := one_cells hcc hx
      obtain ⟨c0, c1, c2, c3, c4, c5⟩ : wr.cell? ⟨g0, off + k * 6, none⟩ = some (.int .i64 x.n) ∧ wr.cell? ⟨g0, off + k * 6 + 1, none⟩ = some (.int .i64 x.par) ∧ wr.cell? ⟨g0, off + k * 6 + 2, none⟩ = some (.int .i64 x.obj) ∧ wr.cell? ⟨g0, off + k * 6 + 3, none⟩ = some (.int .i64 x.ord) ∧
          wr.cell? ⟨g0, off + k * 6 + 4, none⟩ = some (.int .u8 x.rts) ∧ wr.cell? ⟨g0, off + k * 6 + 5, none⟩ = some (.int .u32 x.own) := by
        refine ⟨?_, ?_, ?_, ?_, ?_, ?_⟩ <;> (rw [World.cell?_of_block (w := w) (hb.block g0 hgl)])
        · exact h6.1
        · exact h6.2.1
        · exact h6.2.2.1
        · exact h6.2.2.2.1
        · exact h6.2.2.2.2.1
        · exact h6.2.2.2.2.2
      have hc := HC.out x (List.mem_of_getElem? hx) wr hb
      generalize hq : pr x = q at hc
      have HB := Lib.hid hb
      have HN := Lib.hid (And.intro hnb (And.intro hx hq))
      obtain ⟨x0, x1, x2, x3, x4, x5⟩ := x
      simp only [One.v, One.cells] at hc c0 c1 c2 c3 c4 c5
      have HC1 := Lib.hid hc
      clear hb hnb hx hq hcc h6 hc
      cases q with
      | true =>
        go_wp2_with (go_at_fn g; go_must (refine HC1.out.mono ?_); rintro ex w2 ⟨rfl, hb2⟩; have HB2 := Lib.hid hb2; clear hb2)
        go_ret
        exact ⟨by rw [placeOf_some HN.out.1 HN.out.2.1 HN.out.2.2]; rfl, HB.out.trans (HB2.out.mono HB.out.size)⟩
      | false =>
        go_wp2_with (go_at_fn g; go_must (refine HC1.out.mono ?_); rintro ex w2 ⟨rfl, hb2⟩; have HB2 := Lib.hid hb2; clear hb2)
        go_roundw
        case rel => exact ⟨k + 1, by omega, by go_num, HN.out.1.succ HN.out.2.1 HN.out.2.2, HB.out.trans (HB2.out.mono HB.out.size)⟩
        case measure => simp [intOf]; omega
    · have HN := Lib.hid hnb
      have HB := Lib.hid hb
      clear hnb hb
      go_wp2_with fail
      go_ret
      exact ⟨by rw [placeOf_none HN.out (by omega)]; rfl, HB.out⟩

theorem containsOne_any {w : World} {sa : Option Addr} {cap : Nat} {l : List One} (hv : Rd w 6 (.slice sa l.length cap) l.length (oneCells l)) (hl : l.length ≤ 1000000) (g : Nat) (cb : Array Value) (pr : One → Bool)
    (eg : ∀ args w, (callFunc g args).run Try.prog w = .ok (.enter g args) w) (hcall : OneOn w l g cb pr) :
    Calls Try.prog 42 #[.slice sa l.length cap, .func (.func g) #[] cb] w fun e w' => e = .returned (.bool (l.any pr)) ∧ Below w.heap.size w w' := by
  have hI := indexOne_any hv hl g cb pr eg hcall
  have hge := placeOf_ge pr l
  generalize placeOf pr l = q at hI hge
  have HI := Lib.hid hI
  have HG := Lib.hid hge
  clear hI hv hcall eg hge
  go_enter Try.func42, Try.ntmps42
  go_wp2_with (go_at_call 47; go_must (refine HI.out.mono ?_); rintro e w' ⟨rfl, hb⟩; have HB := Lib.hid hb; clear hb)
  go_ret
  refine ⟨?_, HB.out⟩
  rw [← HG.out]; rfl

theorem isN_on {w : World} {B : Nat} {n : Int} (hB : w.cell? ⟨B, 0, none⟩ = some (.int .i64 n)) (hlt : B < w.heap.size) (l : List One) :
    OneOn w l 48 #[.pointer (some ⟨B, 0, none⟩)] (fun x => x.n == n) := by
  intro x hx wx hxb
  have hc : wx.cell? ⟨B, 0, none⟩ = some (.int .i64 n) := by rw [World.cell?_of_block (w := w) (a := ⟨B, 0, none⟩) (hxb.block B hlt)]; exact hB
  have hl : B < wx.heap.size := Nat.lt_of_lt_of_le hlt hxb.size
  obtain ⟨x0, x1, x2, x3, x4, x5⟩ := x
  show Calls Try.prog 48 #[.agg #[.int .i64 x0, .int .i64 x1, .int .i64 x2, .int .i64 x3, .int .u8 x4, .int .u32 x5], .pointer (some ⟨B, 0, none⟩)] wx fun ex w' => ex = .returned (.bool (x0 == n)) ∧ Below wx.heap.size wx w'
  clear hx hxb hB hlt
  go_enter Try.func48, Try.ntmps48
  go_wp2
  go_ret
  refine ⟨rfl, ?_⟩
  (repeat' (first | exact Below.refl _ _ | refine Below.drew ?_ | refine Below.setCell ?_ (by simp <;> omega) _ | refine Below.alloc ?_ (by simp <;> omega) _))

/-- Where a number stands in the model. -/
theorem find1_any {w : World} {mp : Nat} {sa : Option Addr} {cap : Nat} {l : List One} (hm : w.cell? ⟨mp, 0, none⟩ = some (.slice sa l.length cap)) (hml : mp < w.heap.size) (hv : Rd w 6 (.slice sa l.length cap) l.length (oneCells l)) (hl : l.length ≤ 1000000) (n : Int) :
    Calls Try.prog 36 #[.pointer (some ⟨mp, 0, none⟩), .int .i64 n] w fun e w' => e = .returned (.int .i64 (placeOf (fun x : One => x.n == n) l)) ∧ Below w.heap.size w w' := by
  have eg : ∀ args w, (callFunc 48 args).run Try.prog w = .ok (.enter 48 args) w := enters_of Try.func48 (by kernel_rfl) rfl
  have hv1 : Rd (w.alloc (.cells #[.int .i64 n] 3)) 6 (.slice sa l.length cap) l.length (oneCells l) := hv.same (by simp) (fun g hg => Below.heap_alloc _ _ _ (hv.lt hg))
  have hI := indexOne_any hv1 hl 48 #[.pointer (some ⟨w.heap.size, 0, none⟩)] (fun x => x.n == n) eg (isN_on (B := w.heap.size) (n := n) (by go_simp) (by simp) l)
  have HI := Lib.hid hI
  clear hI hv1 eg hv
  go_enter Try.func36, Try.ntmps36
  go_wp2_with (go_at_call 47; go_must (refine HI.out.mono ?_); rintro e w' ⟨rfl, hb⟩; have HB := Lib.hid hb; clear hb)
  go_ret
  exact ⟨rfl, ((Below.refl _ _).alloc (Nat.le_refl _) _).trans (HB.out.mono (by simp))⟩

/-- What under's loop has done. -/
def UpRel (w : World) (st : FS) (n f : Int) (v : Value) (wr : World) : Prop :=
  ∃ n' : Int, v = .int .i64 n' ∧ undr st.l n' f = undr st.l n f ∧ Below w.heap.size w wr

theorem undr_any {k0 : Nat} {st : FS} (hI : MInv k0 st) (hk0 : k0 ≤ 1000) {w : World} {mp : Nat} {sa : Option Addr} {cap : Nat} (hm : w.cell? ⟨mp, 0, none⟩ = some (.slice sa st.l.length cap)) (hml : mp < w.heap.size) (hv : Rd w 6 (.slice sa st.l.length cap) st.l.length (oneCells (ones st.l))) (n f : Int) (hf : f ≠ 0) :
    Calls Try.prog 40 #[.pointer (some ⟨mp, 0, none⟩), .int .i64 n, .int .i64 f] w fun e w' => e = .returned (.bool (undr st.l n f)) ∧ Below w.heap.size w w' := by
  have hfd := fun (wx : World) (hb : Below w.heap.size w wx) (n' : Int) => find1_any (l := ones st.l) (cap := cap) (mp := mp) (by rw [ones_len, World.cell?_of_block (w := w) (a := ⟨mp, 0, none⟩) (hb.block mp hml)]; exact hm) (Nat.lt_of_lt_of_le hml hb.size) (by rw [ones_len]; exact hv.same hb.size (fun g hg => hb.block g (hv.lt hg))) (by rw [ones_len]; have := hI.ln; omega) n'
  have HF := Lib.hid hfd
  have HV := Lib.hid hv
  have HI := Lib.hid hI
  have HM := Lib.hid hm
  clear hfd hv hI hm
  go_enter Try.func40, Try.ntmps40
  go_wp2_with fail
  go_loopw [1] (fun v wr => UpRel w st n f v wr) (fun v _ => height st (intOf v))
  case atStart => exact ⟨n, rfl, rfl, Below.refl _ _⟩
  case round =>
    obtain ⟨n', rfl, hu, hb⟩ := hrel
    have HB := Lib.hid hb
    have HU := Lib.hid hu
    clear hb hu
    by_cases h0 : n' = 0
    · subst h0
      go_wp2_with fail
      go_ret
      exact ⟨by rw [← HU.out, undr_zero]; rfl, HB.out⟩
    · have h0' : (n' != 0) = true := by simpa using h0
      by_cases h1 : n' = f
      · subst h1
        go_wp2_with fail
        go_ret
        exact ⟨by rw [← HU.out, undr_self _ _ hf]; rfl, HB.out⟩
      · have h1' : (n' == f) = false := by simpa using h1
        have hfd := HF.out wr HB.out n'
        rcases atN_cases HI.out n' with ⟨i, e, ha, hi, hfe, hh, hee⟩ | ⟨ha, hfe⟩
        · unfold atN at ha
          rw [ha] at hfd
          have hil : i < st.l.length := (List.getElem?_eq_some_iff.1 hi).1
          have hln := HI.out.ln
          rcases HV.out.2 with ⟨_, hz⟩ | ⟨g0, off, cap', he, _, hgl, hcc⟩
          · omega
          cases he
          have h6 := (one_cells hcc (by rw [ones_get, hi]; rfl : (ones st.l)[i]? = some (One.of e))).2.1
          simp only [One.of] at h6
          have HX := Lib.hid (And.intro hi (And.intro hfe (And.intro hh (And.intro hee h6))))
          have HF1 := Lib.hid hfd
          have hmm := HM.out
          have HHM := Lib.hid hmm
          have hq1 : ∀ wx, Below w.heap.size w wx → wx.cell? ⟨mp, 0, none⟩ = some (.slice (some ⟨g0, off, none⟩) st.l.length cap) := fun wx hx => by rw [World.cell?_of_block (w := w) (a := ⟨mp, 0, none⟩) (hx.block mp hml)]; exact hmm
          have hq2 : ∀ wx, Below w.heap.size w wx → wx.cell? ⟨g0, off + i * 6 + 1, none⟩ = some (.int .i64 e.par.lo) := fun wx hx => by rw [World.cell?_of_block (w := w) (a := ⟨g0, off + i * 6 + 1, none⟩) (hx.block g0 hgl)]; exact h6
          have HQ := Lib.hid (And.intro hq1 hq2)
          clear ha hi hfe hh hee h6 hcc hfd hmm hq1 hq2
          go_wp2_with (go_at_call 36; go_must (refine HF1.out.mono ?_); rintro ex w2 ⟨rfl, hb2⟩; have HB2 := Lib.hid (HB.out.trans (hb2.mono HB.out.size)); clear hb2; have hc1 := HQ.out.1 _ HB2.out; have hc2 := HQ.out.2 _ HB2.out)
          go_roundw
          case rel =>
            refine ⟨e.par.lo, rfl, ?_, HB2.out⟩
            rw [← HU.out]
            exact (undr_up HI.out hf h1 h0 HX.out.2.2.2.1 HX.out.2.2.1).symm
          case measure =>
            simp only [intOf]
            by_cases hp : e.par.lo = 0
            · rw [hp]
              have hz : st.find ⟨0, 0⟩ = none := by
                cases hz : st.find ⟨0, 0⟩ with
                | none => rfl
                | some x =>
                  obtain ⟨hx, hxh⟩ := FS.find_some hz
                  have := (HI.out.hs x hx).2.1
                  rw [hxh] at this
                  simp at this
              have h2 := HX.out.2.1
              simp only [height, hz, h2]
              omega
            · exact height_up HI.out HX.out.2.1 hp
        · unfold atN at ha
          rw [ha] at hfd
          have HF1 := Lib.hid hfd
          have HX := Lib.hid hfe
          clear ha hfe hfd
          go_wp2_with (go_at_call 36; go_must (refine HF1.out.mono ?_); rintro ex w2 ⟨rfl, hb2⟩; have HB2 := Lib.hid (HB.out.trans (hb2.mono HB.out.size)); clear hb2)
          go_ret
          exact ⟨by rw [← HU.out, undr_none HI.out h1 HX.out]; rfl, HB2.out⟩
end
end Go.Proofs.Ytoeeobebkalglaa
