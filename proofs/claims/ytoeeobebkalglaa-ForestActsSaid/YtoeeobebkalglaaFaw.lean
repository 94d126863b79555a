/- A walk of the law ForestActs: it returns true, whatever is asked. -/
import Derived.Test.YtoeeobebkalglaaFs0
import Derived.Test.YtoeeobebkalglaaFs1
import Derived.Test.YtoeeobebkalglaaFs2
import Derived.Test.YtoeeobebkalglaaFs3
import Derived.Test.YtoeeobebkalglaaFs4
namespace Go.Proofs.Ytoeeobebkalglaa
open Go.RowKit Go.Ease

theorem step_any {k0 : Nat} {st : FS} (hI : MInv k0 st) (hk0 : k0 ≤ 100) {w : World} {B0 p mb mp base : Nat} (hall : Fo w p mb st ∧ Mo w mp base (ones st.l) st.next ∧ (p < base ∧ mb < base ∧ p ≠ mp ∧ mb ≠ mp) ∧ B0 ≤ p ∧ B0 ≤ mb ∧ B0 ≤ mp) (a : Actv) (ha : a.ok) :
    Calls Try.prog 23 (#[.pointer (some ⟨p, 0, none⟩), .pointer (some ⟨mp, 0, none⟩), .agg a.cells.toArray]) w fun e w' => e = .returned (.bool true) ∧ StepTo B0 w k0 p mb mp base w' := by
  have h : a.kind % 5 = 0 ∨ a.kind % 5 = 1 ∨ a.kind % 5 = 2 ∨ a.kind % 5 = 3 ∨ a.kind % 5 = 4 := by omega
  rcases h with h | h | h | h | h
  · exact step_0 hI hk0 hall a ha h
  · exact step_1 hI hk0 hall a ha h
  · exact step_2 hI hk0 hall a ha h
  · exact step_3 hI hk0 hall a ha h
  · exact step_4 hI hk0 hall a ha h

def cnt (p : Ent → Bool) (l : List Ent) (j : Nat) : Int := ((l.take j).filter p).length
theorem cnt_zero (p : Ent → Bool) (l : List Ent) : cnt p l 0 = 0 := by simp [cnt]
theorem cnt_succ (p : Ent → Bool) (l : List Ent) (j : Nat) (e : Ent) (h : l[j]? = some e) : cnt p l (j + 1) = if p e = true then cnt p l j + 1 else cnt p l j := by
  unfold cnt
  cases hp : p e with
  | true => rw [filter_snoc_pos p l j e h hp]; simp
  | false => rw [filter_snoc_neg p l j e h hp]; simp
theorem cnt_all (p : Ent → Bool) (l : List Ent) : cnt p l l.length = ((l.filter p).length : Int) := by simp [cnt]
theorem cnt_le (p : Ent → Bool) (l : List Ent) (j : Nat) : 0 ≤ cnt p l j ∧ cnt p l j ≤ l.length := by
  unfold cnt
  have h1 := List.length_filter_le p (l.take j)
  have h2 := List.length_take_le' j l
  omega

/-- What the law's loop has done. -/
def ActRel (w : World) (n p mb mp base : Nat) (i : Value) (wr : World) : Prop :=
  ∃ (k : Nat) (st : FS), k ≤ n ∧ i = .int .i64 k ∧ MInv k st ∧ Fo wr p mb st ∧ Mo wr mp base (ones st.l) st.next ∧ Below w.heap.size w wr
/-- What its inner loop has counted. -/
def CntRel (w : World) (l : List Ent) (ob u : Int) (hv cv i : Value) (wx : World) : Prop :=
  ∃ j : Nat, j ≤ l.length ∧ i = .int .i64 j ∧ hv = .int .i64 (cnt (fun e => e.own == u) l j) ∧ cv = .int .i64 (cnt (fun e => e.obj == ob) l j) ∧ Below w.heap.size w wx

section
set_option maxHeartbeats 4000000
theorem pred_a1 (w : World) (l : List Ent) : PredOn w l 25 #[] (fun _ => true) := by
  intro e he wx hx
  obtain ⟨⟨e0, e1⟩, e2, e3, e4, ⟨e5, e6⟩, e7⟩ := e
  show Calls Try.prog 25 #[.agg #[.int .u64 e0, .int .u64 e1, .int .i64 e2, .int .u8 e3, .int .u32 e4, .int .u64 e5, .int .u64 e6, .int .i64 e7]] wx _
  clear he hx
  go_enter Try.func25, Try.ntmps25
  go_wp2
  go_ret
  refine ⟨rfl, ?_⟩
  (repeat' (first | exact Below.refl _ _ | refine Below.drew ?_ | refine Below.setCell ?_ (by simp <;> omega) _ | refine Below.alloc ?_ (by simp <;> omega) _))

set_option maxRecDepth 100000 in
theorem acts_true {w : World} {va : Option Addr} {vc : Nat} (l : List Actv) (hl : ∀ a ∈ l, a.ok) (hv : Ra w 7 (.slice va l.length vc) l.length (actCells l)) :
    Calls Try.prog 5 #[.slice va l.length vc] w fun e w' => e = .returned (.bool true) ∧ Below w.heap.size w w' := by
  have HLV := Lib.hid lives_true
  have HV := Lib.hid hv
  have HOK := Lib.hid hl
  clear hv hl
  by_cases h100 : 100 < l.length
  · have h100' : (100 : Int) < (l.length : Int) := by omega
    go_enter Try.func5, Try.ntmps5
    have H := Lib.hid (Below.refl w.heap.size w)
    go_wp2_with (go_at_call 6; go_must (refine (HLV.out _).mono ?_); rintro e w1 ⟨rfl, hb⟩; have H := Lib.hid (show Below w.heap.size w w1 from H.out.trans (hb.mono H.out.size)); clear hb)
    go_ret
    exact ⟨rfl, H.out⟩
  · have h100' : ¬ (100 : Int) < (l.length : Int) := by omega
    go_enter Try.func5, Try.ntmps5
    go_upto_region 4 with (first | (go_at_call 6; go_must (refine (HLV.out _).mono ?_); rintro e w1 ⟨rfl, hb⟩; have H1 := Lib.hid hb; clear hb) | (go_at_call 7; go_must (refine (new_any _).mono ?_); rintro e w2 ⟨rfl, hb, hf⟩; have H2 := Lib.hid (And.intro (H1.out.trans (hb.mono H1.out.size)) hf); clear hb hf))
    have hw1z := H1.out.size
    have hb2 := H2.out.1
    have hf2 := H2.out.2
    have hp2 := hf2.lt
    have hpmb : w1.heap.size + 1 ≠ w1.heap.size := by omega
    have hmb2 := hf2.mp.lt
    have hB1 : w.heap.size ≤ w1.heap.size + 1 := by omega
    generalize w1.heap.size + 1 = p at *
    generalize w1.heap.size = mb at *
    have hmo : Mo (w2.alloc (.cells #[.slice none 0 0, .int .i64 0] 56)) w2.heap.size (w2.heap.size + 1) [] 0 := ⟨by omega, by simp, none, 0, heap_alloc_new _ _, World.ownsRow_nil _ _ _ _⟩
    have hf3 : Fo (w2.alloc (.cells #[.slice none 0 0, .int .i64 0] 56)) p mb ⟨[], 0⟩ := hf2.below ((Below.refl _ _).alloc (Nat.le_refl _) _)
    have hb3 : Below w.heap.size w (w2.alloc (.cells #[.slice none 0 0, .int .i64 0] 56)) := hb2.alloc hb2.size _
    have hI0 : MInv 0 ⟨[], 0⟩ := ⟨exOk, by simp, by simp, by simp, by simp⟩
    have hmpw : w.heap.size ≤ w2.heap.size := hb2.size
    have hpne : p ≠ w2.heap.size ∧ mb ≠ w2.heap.size ∧ p < w2.heap.size + 1 ∧ mb < w2.heap.size + 1 := by omega
    generalize w2.heap.size = mp at *
    generalize (w2.alloc (.cells #[.slice none 0 0, .int .i64 0] 56)) = w3 at *
    have H3 := Lib.hid (And.intro hI0 (And.intro hf3 (And.intro hmo hb3)))
    clear hb2 hf2 hI0 hf3 hmo hb3 H1 H2
    have hv2 := HV.out.2
    have HV2 := Lib.hid hv2
    clear hv2
    go_wp2_with fail
    go_loopw [26] (fun i wr => ActRel w l.length p mb mp (mp + 1) i wr) (fun i _ => l.length - (intOf i).toNat)
    case atStart => exact ⟨0, ⟨[], 0⟩, Nat.zero_le _, rfl, H3.out.1, H3.out.2.1, H3.out.2.2.1, H3.out.2.2.2⟩
    case round =>
      obtain ⟨k, st, hk, rfl, hI, hf, hm, hb⟩ := hrel
      by_cases hlt : k < l.length
      · rcases HV2.out with hn0 | ⟨g, off, cap', hv, hnc, hgl, hgc⟩
        · omega
        simp only [Value.slice.injEq] at hv
        obtain ⟨rfl, _, rfl⟩ := hv
        obtain ⟨a, ha⟩ : ∃ a, l[k]? = some a := ⟨l[k], List.getElem?_eq_getElem hlt⟩
        have haok := HOK.out a (List.mem_of_getElem? ha)
        have hcs := act_cells hgc ha
        have q : ∀ o v, w.cell? ⟨g, o, none⟩ = some v → wr.cell? ⟨g, o, none⟩ = some v := fun o v h => by rw [World.cell?_of_block (w := w) (a := ⟨g, o, none⟩) (hb.block g hgl)]; exact h
        obtain ⟨b0, b1, b2, b3, b4, b5, b6⟩ := hcs
        replace b0 := q _ _ b0
        replace b1 := q _ _ b1
        replace b2 := q _ _ b2
        replace b3 := q _ _ b3
        replace b4 := q _ _ b4
        replace b5 := q _ _ b5
        replace b6 := q _ _ b6
        have hgw : g < wr.heap.size := Nat.lt_of_lt_of_le hgl hb.size
        obtain ⟨hB, -⟩ : wr.heap.size < (wr.alloc (.cells a.cells.toArray 37)).heap.size ∧ True := ⟨by simp, trivial⟩
        have hst := step_any hI (by omega) (B0 := w.heap.size) (w := wr.alloc (.cells a.cells.toArray 37)) (p := p) (mb := mb) (mp := mp) (base := mp + 1) ⟨hf.below ((Below.refl _ _).alloc (Nat.le_refl _) _), hm.below ((Below.refl _ _).alloc (Nat.le_refl _) _), ⟨by omega, by omega, by omega, by omega⟩, by omega, by omega, by omega⟩ a haok
        have hsz := hb.size
        have hbb : Below w.heap.size w (wr.alloc (.cells a.cells.toArray 37)) := hb.alloc hsz _
        obtain ⟨a0, a1, a2, a3, a4, a5, a6⟩ := a
        simp only [Actv.cells] at b0 b1 b2 b3 b4 b5 b6 hst hbb
        have hx5 := haok.2.2.2.1
        simp only at hx5
        have HST := Lib.hid hst
        have HBB := Lib.hid hbb
        have hact : ∀ sa n cap nx, (wr.alloc (.cells #[.int .u8 a0, .int .i64 a1, .int .i64 a2, .int .u32 a3, .int .u32 a4, .int .u8 a5, .int .i64 a6] 37)).heap[mp]? = some (.cells #[.slice sa n cap, nx] 56 (0, 0)) → (Value.slice sa n cap).ownBlock ≠ some wr.heap.size := by
          intro sa n cap nx h1 h2
          obtain ⟨sa0, cap0, hmb0, hmo0⟩ := hm.ex
          rw [Below.heap_alloc _ _ _ (lt_of_block hmb0), hmb0] at h1
          simp only [Option.some.injEq, Obj.cells.injEq, Array.mk.injEq, List.cons.injEq, Value.slice.injEq, and_true] at h1
          have h3 := (hmo0.lt wr.heap.size (by rw [h1.1.1]; exact (ownBlock_len _ _ _ _ _).trans h2)).2
          omega
        have hps := hf.lt
        have hmbs := hf.mp.lt
        have hmps := hm.le
        have HACT := Lib.hid hact
        obtain ⟨wv, hwv⟩ : ∃ h : Int, h = a3 % 4 := ⟨_, rfl⟩
        have e3 : a3.tmod 4 = wv := by rw [Int.tmod_eq_emod_of_nonneg hx5.1, ← hwv]
        have e3' : a3 % 4 = wv := hwv.symm
        have HE := Lib.hid (And.intro e3 e3')
        clear hgc ha haok q hI hf hm hb hst hbb hact hwv e3 e3'
        go_upto_region 9 with (go_at_call 23; go_must (refine HST.out.mono ?_); rintro ex w5 ⟨rfl, hs5⟩; have H5 := Lib.hid hs5; clear hs5)
        obtain ⟨st', hI', hf', hm', hb', hk'⟩ := H5.out
        have hab := hk' wr.heap.size (by simp) (by omega) (by omega) (by omega) HACT.out
        rw [heap_alloc_new] at hab
        have h7 := seven_cells hab
        have hb5 : Below w.heap.size w w5 := HBB.out.trans (hb' HBB.out.size)
        obtain ⟨-, hle5, sa, cap, hmb, hmo⟩ := hm'
        rw [ones_len] at hmb hmo
        have hm0 : w5.cell? ⟨mp, 0, none⟩ = some (.slice sa st'.l.length cap) := by rw [cell_of_row w5 mp _ _ _ _ hmb]; rfl
        have hrd := Rd.of_owns hmo
        have hln := hI'.ln
        have hmpl := lt_of_block hmb
        have HI := Lib.hid hI'
        have HW := Lib.hid (And.intro hf' (And.intro hb5 (And.intro hmb (And.intro hmo (And.intro hm0 hrd)))))
        have hsz5 := hb5.size
        obtain ⟨e3, e3'⟩ := HE.out
        refine wp_region_ord (fun w' => w'.cell? ⟨wr.heap.size, 6, none⟩ = some (.int .i64 a6) ∧ w'.cell? ⟨wr.heap.size, 3, none⟩ = some (.int .u32 a3)) 9 [(0,0),(1,0),(2,0),(3,0),(4,0),(5,0),(6,0),(7,0),(8,0)] (by kernel_rfl) (by kernel_rfl) (fun c a d v w h => by cases d <;> exact h) ⟨h7.2.2.2.2.2.2, h7.2.2.2.1⟩ ?_
        clear hI' hf' hb' hk' hab h7 hb5 hmb hmo hm0 hrd H5 b0 b1 b2 b3 b4 b5 b6
        repeat (first | (refine wpOrd_skip rfl rfl ?_; simp only [Act.put, List.setIfInBounds_toArray, List.set_cons_succ, List.set_cons_zero]) | (refine wpOrd_pure rfl rfl ?_; apply Exists.intro; refine ⟨fun wq => ?_, ?_⟩; (go_simp <;> rfl); simp only [Act.put, List.setIfInBounds_toArray, List.set_cons_succ, List.set_cons_zero]) | (refine wpOrd_read rfl rfl (by decide) ?_; apply Exists.intro; refine ⟨fun wq hq => ?_, ?_⟩; (go_simp <;> rfl); simp only [Act.put, List.setIfInBounds_toArray, List.set_cons_succ, List.set_cons_zero]))
        refine wpOrd_nil ?_
        have hm0 : w5.drew.cell? ⟨mp, 0, none⟩ = some (.slice sa st'.l.length cap) := HW.out.2.2.2.2.1
        clear e3 e3'
        go_wp2_with fail
        clear hm0
        obtain ⟨wo, rfl⟩ : ∃ wo : World, wo = wr := ⟨_, rfl⟩
        go_loopw [9, 10, 45] (fun hv cv i wx => CntRel w5 st'.l a6 wv hv cv i wx) (fun _ _ i _ => st'.l.length - (intOf i).toNat)
        case atStart => exact ⟨0, Nat.zero_le _, rfl, by rw [cnt_zero], by rw [cnt_zero], (Below.refl _ _).drew⟩
        case round =>
          obtain ⟨wx, rfl⟩ : ∃ wx : World, wx = wr := ⟨_, rfl⟩
          obtain ⟨j, hj, rfl, rfl, rfl, hbx⟩ := hrel
          have hbx' : Below w5.heap.size w5 wx := hbx
          have hszx := hbx'.size
          have hc1 := cnt_le (fun e => e.own == wv) st'.l j
          have hc2 := cnt_le (fun e => e.obj == a6) st'.l j
          by_cases hjl : j < st'.l.length
          · obtain ⟨e, he⟩ : ∃ e, st'.l[j]? = some e := ⟨st'.l[j], List.getElem?_eq_getElem hjl⟩
            have hs1 := cnt_succ (fun e => e.own == wv) st'.l j e he
            have hs2 := cnt_succ (fun e => e.obj == a6) st'.l j e he
            rcases HW.out.2.2.2.2.2.2 with ⟨_, h0⟩ | ⟨g9, off9, cap9, hv9, _, hgl9, hgc9⟩
            · omega
            simp only [Value.slice.injEq] at hv9
            obtain ⟨rfl, _, rfl⟩ := hv9
            have h6 := one_cells hgc9 (by rw [ones_get, he]; rfl : (ones st'.l)[j]? = some (One.of e))
            have q : ∀ o v, w5.cell? ⟨g9, o, none⟩ = some v → wx.cell? ⟨g9, o, none⟩ = some v := fun o v h => by rw [World.cell?_of_block (w := w5) (a := ⟨g9, o, none⟩) (hbx'.block g9 hgl9)]; exact h
            obtain ⟨d0, d1, d2, d3, d4, d5⟩ := h6
            replace d0 := q _ _ d0
            replace d1 := q _ _ d1
            replace d2 := q _ _ d2
            replace d3 := q _ _ d3
            replace d4 := q _ _ d4
            replace d5 := q _ _ d5
            have hgx : g9 < wx.heap.size := by omega
            have HX := Lib.hid (And.intro hbx' (And.intro hs1 hs2))
            obtain ⟨⟨e0, e1⟩, e2, e3, e4, ⟨e5, e6⟩, e7⟩ := e
            simp only [One.of] at d0 d1 d2 d3 d4 d5
            generalize cnt (fun e => e.own == wv) st'.l j = c1 at *
            generalize cnt (fun e => e.obj == a6) st'.l j = c2 at *
            clear hgc9 q he hbx hbx' hs1 hs2
            cases ho : e4 == wv <;> cases hob : e2 == a6
            all_goals
              go_wp2_with fail
              obtain ⟨hb1, hs1, hs2⟩ := HX.out
              simp only [ho, hob] at hs1 hs2
              go_roundw
              case measure => simp [intOf]; omega
              case rel => exact ⟨j + 1, by omega, by go_num, by rw [hs1]; rfl, by rw [hs2]; rfl, (hb1.alloc (by omega) _)⟩
          · have hjj : j = st'.l.length := by omega
            subst hjj
            rw [cnt_all, cnt_all]
            have hfx : Fo wx p mb st' := HW.out.1.below hbx'
            have hmx : wx.cell? ⟨mp, 0, none⟩ = some (.slice sa st'.l.length cap) := by rw [World.cell?_of_block (w := w5) (a := ⟨mp, 0, none⟩) (hbx'.block mp hmpl)]; exact HW.out.2.2.2.2.1
            have hrx : Rd wx 6 (.slice sa st'.l.length cap) st'.l.length (oneCells (ones st'.l)) := HW.out.2.2.2.2.2.same hszx (fun g hg => hbx'.block g (HW.out.2.2.2.2.2.lt hg))
            have hft : st'.l.filter (fun _ => true) = st'.l := List.filter_eq_self.2 (fun _ _ => rfl)
            have eg : ∀ args w, (callFunc 25 args).run Try.prog w = .ok (.enter 25 args) w := enters_of Try.func25 (by kernel_rfl) rfl
            have hl := fun (wy : World) (hy : Fo wy p mb st') => list_any hy HI.out.ok _ #[] (fun _ => true) eg (pred_a1 wy st'.l)
            rw [hft] at hl
            have hheld := fun (wy : World) (hy : Fo wy p mb st') => held_any hy HI.out.ok wv
            have hcount := fun (wy : World) (hy : Fo wy p mb st') => count_any hy HI.out.ok a6
            generalize (st'.l.filter (fun e => e.own == wv)).length = n1 at *
            generalize (st'.l.filter (fun e => e.obj == a6)).length = n2 at *
            have hmxl : mp < wx.heap.size := by omega
            have HL := Lib.hid hl
            have HH := Lib.hid hheld
            have HC := Lib.hid hcount
            have HX := Lib.hid (And.intro hbx' (And.intro hfx (And.intro hrx hmx)))
            clear hft eg hl hheld hcount hbx hbx' hfx hrx hc1 hc2
            go_upto_region 18 with (fail)
            refine wp_region_ord (fun w' => w'.cell? ⟨mp, 0, none⟩ = some (.slice sa st'.l.length cap)) 22 [(0,0),(2,0),(3,0),(4,0),(5,0),(1,1),(6,1),(7,0),(8,0),(9,0),(10,0),(12,0),(11,1),(13,0),(14,0),(15,0),(16,0),(17,0),(19,0),(18,1),(20,0),(21,0)] (by kernel_rfl) (by kernel_rfl) (fun c a d v w h => by cases d <;> exact h) hmx ?_
            clear hmx
            have hk0 : ∀ wy : World, Below wx.heap.size wx wy → wy.cell? ⟨mp, 0, none⟩ = some (.slice sa st'.l.length cap) := fun wy hy => by rw [World.cell?_of_block (w := wx) (a := ⟨mp, 0, none⟩) (hy.block mp hmxl)]; exact HX.out.2.2.2
            have HK := Lib.hid hk0
            clear hk0
            repeat (first | (refine wpOrd_skip rfl rfl ?_; simp only [Act.put, List.setIfInBounds_toArray, List.set_cons_succ, List.set_cons_zero]) | (refine wpOrd_pure rfl rfl ?_; apply Exists.intro; refine ⟨fun wq => ?_, ?_⟩; (go_simp <;> rfl); simp only [Act.put, List.setIfInBounds_toArray, List.set_cons_succ, List.set_cons_zero]) | (refine wpOrd_read rfl rfl (by decide) ?_; apply Exists.intro; refine ⟨fun wq hq => ?_, ?_⟩; (go_simp <;> rfl); simp only [Act.put, List.setIfInBounds_toArray, List.set_cons_succ, List.set_cons_zero]))
            refine wpOrd_act rfl (by decide) (fun K hK => ?_)
            go_wp2_with (go_at_call 10; go_must (refine (HL.out _ (by exact HX.out.2.1.below (Below.refl _ _).drew)).mono ?_); rintro ex w6 ⟨ga, gc, rfl, hb6, hr6, -⟩; have H6 := Lib.hid (And.intro (below_undrew hb6) hr6); clear hb6 hr6)
            refine hK _ _ ?_ (fun hS => ?_)
            all_goals (clear hK K)
            · exact HK.out _ H6.out.1
            have hsm := same_any st'.l (MInv.small HI.out) (by omega) H6.out.2 (HX.out.2.2.1.same H6.out.1.size (fun g hg => H6.out.1.block g (HX.out.2.2.1.lt hg)))
            have HSM := Lib.hid hsm
            clear hsm
            refine wpOrd_act rfl (by decide) (fun K hK => ?_)
            go_wp2_with (go_at_call 24; go_must (refine HSM.out.mono ?_); rintro ex w7 ⟨rfl, hb7⟩; have H7 := Lib.hid (H6.out.1.trans (hb7.mono H6.out.1.size)); clear hb7)
            refine hK _ _ ?_ (fun hS => ?_)
            all_goals (clear hK K)
            · exact HK.out _ H7.out
            repeat (first | (refine wpOrd_skip rfl rfl ?_; simp only [Act.put, List.setIfInBounds_toArray, List.set_cons_succ, List.set_cons_zero]) | (refine wpOrd_pure rfl rfl ?_; apply Exists.intro; refine ⟨fun wq => ?_, ?_⟩; (go_simp <;> rfl); simp only [Act.put, List.setIfInBounds_toArray, List.set_cons_succ, List.set_cons_zero]) | (refine wpOrd_read rfl rfl (by decide) ?_; apply Exists.intro; refine ⟨fun wq hq => ?_, ?_⟩; (go_simp <;> rfl); simp only [Act.put, List.setIfInBounds_toArray, List.set_cons_succ, List.set_cons_zero]))
            refine wpOrd_act rfl (by decide) (fun K hK => ?_)
            go_wp2_with (go_at_call 22; go_must (refine (HH.out _ (by exact HX.out.2.1.below H7.out)).mono ?_); rintro ex w8 ⟨rfl, hb8⟩; have H8 := Lib.hid (H7.out.trans (hb8.mono H7.out.size)); clear hb8)
            refine hK _ _ ?_ (fun hS => ?_)
            all_goals (clear hK K)
            · exact HK.out _ H8.out
            repeat (first | (refine wpOrd_skip rfl rfl ?_; simp only [Act.put, List.setIfInBounds_toArray, List.set_cons_succ, List.set_cons_zero]) | (refine wpOrd_pure rfl rfl ?_; apply Exists.intro; refine ⟨fun wq => ?_, ?_⟩; (go_simp <;> rfl); simp only [Act.put, List.setIfInBounds_toArray, List.set_cons_succ, List.set_cons_zero]) | (refine wpOrd_read rfl rfl (by decide) ?_; apply Exists.intro; refine ⟨fun wq hq => ?_, ?_⟩; (go_simp <;> rfl); simp only [Act.put, List.setIfInBounds_toArray, List.set_cons_succ, List.set_cons_zero]))
            refine wpOrd_act rfl (by decide) (fun K hK => ?_)
            go_wp2_with (go_at_call 16; go_must (refine (HC.out _ (by exact HX.out.2.1.below H8.out)).mono ?_); rintro ex w9 ⟨rfl, hb9⟩; have H9 := Lib.hid (H8.out.trans (hb9.mono H8.out.size)); clear hb9)
            refine hK _ _ ?_ (fun hS => ?_)
            all_goals (clear hK K)
            · exact HK.out _ H9.out
            repeat (first | (refine wpOrd_skip rfl rfl ?_; simp only [Act.put, List.setIfInBounds_toArray, List.set_cons_succ, List.set_cons_zero]) | (refine wpOrd_pure rfl rfl ?_; apply Exists.intro; refine ⟨fun wq => ?_, ?_⟩; (go_simp <;> rfl); simp only [Act.put, List.setIfInBounds_toArray, List.set_cons_succ, List.set_cons_zero]) | (refine wpOrd_read rfl rfl (by decide) ?_; apply Exists.intro; refine ⟨fun wq hq => ?_, ?_⟩; (go_simp <;> rfl); simp only [Act.put, List.setIfInBounds_toArray, List.set_cons_succ, List.set_cons_zero]))
            refine wpOrd_nil ?_
            have hb9 := HX.out.1.trans (H9.out.mono HX.out.1.size)
            have hm9 : Mo w9 mp (mp + 1) (ones st'.l) st'.next := Mo.below ⟨by omega, by omega, sa, cap, by rw [ones_len]; exact HW.out.2.2.1, by rw [ones_len]; exact HW.out.2.2.2.1⟩ hb9
            have hall : MInv (k + 1) st' ∧ Fo w9 p mb st' ∧ Mo w9 mp (mp + 1) (ones st'.l) st'.next ∧ Below w.heap.size w w9 := ⟨HI.out, HW.out.1.below hb9, hm9, HW.out.2.1.trans (hb9.mono hsz5)⟩
            have HALL := Lib.hid hall
            clear hb9 hm9 hall hS
            go_wp2
            go_roundw
            case measure => simp [intOf]; omega
            case rel => exact ⟨k + 1, st', by omega, by go_num, HALL.out⟩
      · go_wp2_with fail
        go_ret
        exact ⟨rfl, hb⟩
end
end Go.Proofs.Ytoeeobebkalglaa
