/- Walks of the closures of the law's step: who is under the handle, who is under one of somebody's. -/
import Derived.Test.YtoeeobebkalglaaFas
namespace Go.Ease
open Go.RowKit
theorem attB_small {s t : Int} (hs : 0 ≤ s ∧ s ≤ 31) (ht : 0 ≤ t ∧ t ≤ 31) : attB s t = if (bits .and .u8 s 8 == 0) = true then (0, 6) else if (bits .andNot .u8 t s != 0) = true then (0, 6) else (t, 0) := by
  have h : ∀ s t : Fin 32, attB (s.val : Int) (t.val : Int) = if (bits .and .u8 (s.val : Int) 8 == 0) = true then (0, 6) else if (bits .andNot .u8 (t.val : Int) (s.val : Int) != 0) = true then (0, 6) else ((t.val : Int), 0) := by decide +kernel
  obtain ⟨n, rfl⟩ : ∃ n : Nat, s = n := ⟨s.toNat, by omega⟩
  obtain ⟨m, rfl⟩ : ∃ n : Nat, t = n := ⟨t.toNat, by omega⟩
  exact h ⟨n, by omega⟩ ⟨m, by omega⟩
theorem ownBlock_len (a : Option Addr) (n c n' c' : Nat) : (Value.slice a n c).ownBlock = (Value.slice a n' c').ownBlock := by cases a <;> rfl
theorem hd_eq {h : Hd} (h0 : h.hi = 0) : h = ⟨0, h.lo⟩ := by cases h; simp_all
theorem undr_eq (L : List Ent) (h : Hd) (h0 : h.hi = 0) (h1 : h.lo ≠ 0) (f : Int) : undr L h.lo f = decide (h ∈ inSet ⟨0, f⟩ L) := by
  obtain ⟨hi, lo⟩ := h
  simp only at h0 h1
  subst h0
  simp [undr, h1]
/-- Revoke's and the model's agree. -/
theorem gone_ones {k : Nat} {st : FS} (h : MInv k st) (n : Int) : (ones st.l).filter (fun x => undr st.l x.n n) = ones (st.gone ⟨0, n⟩) ∧ (ones st.l).filter (fun x => !undr st.l x.n n) = ones (st.left ⟨0, n⟩) := by
  have key : ∀ e ∈ st.l, undr st.l (One.of e).n n = decide (e.h ∈ inSet ⟨0, n⟩ st.l) := fun e he => by
    have hs := h.hs e he
    exact undr_eq _ _ hs.1 (by omega) n
  exact ⟨ones_filter _ _ _ key, ones_filter _ _ _ (fun e he => by rw [key e he])⟩
def leaves (L : List Ent) (u : Int) (x : One) : Bool := (ones L).any fun y => (y.own == u) && undr L x.n y.n
/-- Leave's and the model's agree. -/
theorem dead_ones {k : Nat} {st : FS} (h : MInv k st) (u : Int) : (ones st.l).filter (leaves st.l u) = ones (st.out (st.l.filter (fun e => e.own == u))) ∧ (ones st.l).filter (fun x => !leaves st.l u x) = ones (st.leaveN (st.l.filter (fun e => e.own == u))).1.l := by
  have ho : ∀ y ∈ st.l.filter (fun e => e.own == u), y ∈ st.l := fun y hy => (List.mem_filter.1 hy).1
  have key : ∀ e ∈ st.l, leaves st.l u (One.of e) = dead st.l (st.l.filter (fun e => e.own == u)) e.h := fun e he => by
    have hs := h.hs e he
    unfold leaves dead ones
    rw [List.any_map, List.any_filter, Bool.eq_iff_iff, List.any_eq_true, List.any_eq_true]
    have hy : ∀ y ∈ st.l, undr st.l e.h.lo y.h.lo = decide (e.h ∈ inSet y.h st.l) := fun y hy => by
      rw [undr_eq _ _ hs.1 (by omega), ← hd_eq (h.hs y hy).1]
    constructor
    · rintro ⟨y, hy1, hy2⟩
      refine ⟨y, hy1, ?_⟩
      simp only [One.of, Function.comp] at hy2
      rw [hy y hy1] at hy2
      exact hy2
    · rintro ⟨y, hy1, hy2⟩
      refine ⟨y, hy1, ?_⟩
      simp only [One.of, Function.comp]
      rw [hy y hy1]
      exact hy2
  rw [out_eq h _ ho, leaveN_left h _ ho]
  exact ⟨ones_filter _ _ _ key, ones_filter _ _ _ (fun e he => by rw [key e he])⟩
end Go.Ease
namespace Go.Proofs.Ytoeeobebkalglaa
open Go.RowKit Go.Ease

/-- Is the handle somebody's? -/
def mineB (st : FS) (h u : Int) : Bool := match st.find ⟨0, h⟩ with | some e => e.own == u | none => false
/-- Is a number free? -/
def freeB (st : FS) (n : Int) : Bool := decide (n ≠ 0) && (st.find ⟨0, n⟩).isNone

/-- What a step has laid: the act, the handle's number, who asks, the handle's place. -/
structure SEnv (w wx : World) (a0 a1 a2 a3 a4 a5 a6 hv wv kv : Int) (kb : Nat) : Prop where
  act : wx.heap[w.heap.size]? = some (.cells #[.int .u8 a0, .int .i64 a1, .int .i64 a2, .int .u32 a3, .int .u32 a4, .int .u8 a5, .int .i64 a6] 37 (0, 0))
  hb : wx.heap[w.heap.size + 1]? = some (.cells #[.int .i64 hv] 3 (0, 0))
  wb : wx.heap[w.heap.size + 2]? = some (.cells #[.int .u32 wv] 33 (0, 0))
  kr : w.heap.size + 3 ≤ kb ∧ kb < wx.heap.size
  kc : wx.heap[kb]? = some (.cells #[.int .i64 kv] 3 (0, 0))
  bl : Below w.heap.size w wx

theorem SEnv.same {w wx wy : World} {a0 a1 a2 a3 a4 a5 a6 hv wv kv : Int} {kb : Nat} (h : SEnv w wx a0 a1 a2 a3 a4 a5 a6 hv wv kv kb) (hs : Below wx.heap.size wx wy) : SEnv w wy a0 a1 a2 a3 a4 a5 a6 hv wv kv kb where
  act := (hs.block _ (lt_of_block h.act)).trans h.act
  hb := (hs.block _ (lt_of_block h.hb)).trans h.hb
  wb := (hs.block _ (lt_of_block h.wb)).trans h.wb
  kr := ⟨h.kr.1, Nat.lt_of_lt_of_le h.kr.2 hs.size⟩
  kc := (hs.block _ h.kr.2).trans h.kc
  bl := h.bl.trans (hs.mono h.bl.size)

theorem seven_cells {w : World} {b : Nat} {a0 a1 a2 a3 a4 a5 a6 : Value} {t : TypeId} (h : w.heap[b]? = some (.cells #[a0, a1, a2, a3, a4, a5, a6] t (0, 0))) :
    w.cell? ⟨b, 0, none⟩ = some a0 ∧ w.cell? ⟨b, 1, none⟩ = some a1 ∧ w.cell? ⟨b, 2, none⟩ = some a2 ∧ w.cell? ⟨b, 3, none⟩ = some a3 ∧ w.cell? ⟨b, 4, none⟩ = some a4 ∧ w.cell? ⟨b, 5, none⟩ = some a5 ∧ w.cell? ⟨b, 6, none⟩ = some a6 := by
  refine ⟨?_, ?_, ?_, ?_, ?_, ?_, ?_⟩ <;> (rw [cell_of_row w b _ _ _ _ h]; rfl)
theorem cell1 {w : World} {b : Nat} {a0 : Value} {t : TypeId} (h : w.heap[b]? = some (.cells #[a0] t (0, 0))) : w.cell? ⟨b, 0, none⟩ = some a0 := by
  rw [cell_of_row w b _ _ _ _ h]; rfl

def MF (mp base : Nat) : Nat → Prop := fun k => k = mp ∨ base ≤ k
theorem SEnv.stp {w wx wy : World} {a0 a1 a2 a3 a4 a5 a6 hv wv kv : Int} {kb : Nat} (h : SEnv w wx a0 a1 a2 a3 a4 a5 a6 hv wv kv kb) {F F' : Nat → Prop} (hs : Stp F wx wy F') (hF : ∀ k, F k → k < w.heap.size) : ((wy.heap[w.heap.size]? = some (.cells #[.int .u8 a0, .int .i64 a1, .int .i64 a2, .int .u32 a3, .int .u32 a4, .int .u8 a5, .int .i64 a6] 37 (0, 0))) ∧
    wy.heap[w.heap.size + 1]? = some (.cells #[.int .i64 hv] 3 (0, 0))) ∧ wy.heap[w.heap.size + 2]? = some (.cells #[.int .u32 wv] 33 (0, 0)) ∧ wy.heap[kb]? = some (.cells #[.int .i64 kv] 3 (0, 0)) := by
  have key : ∀ k, w.heap.size ≤ k → k < wx.heap.size → wy.heap[k]? = wx.heap[k]? := fun k h1 h2 => hs.block k h2 (fun hf => by have := hF k hf; omega)
  exact ⟨⟨(key _ (by omega) (lt_of_block h.act)).trans h.act, (key _ (by omega) (lt_of_block h.hb)).trans h.hb⟩, (key _ (by omega) (lt_of_block h.wb)).trans h.wb, (key _ (by have := h.kr.1; omega) h.kr.2).trans h.kc⟩

/-- The model takes one more. -/
theorem mo_append {w w7 : World} {mp base : Nat} {sa a' : Option Addr} {cap c' : Nat} {L : List One} {x : One} {next : Int} (hlt : mp < base) (hle : base ≤ w.heap.size) (hb : w.heap[mp]? = some (.cells #[.slice sa L.length cap, .int .i64 next] 56 (0, 0)))
    (ho : w.ownsRow base 59 6 (.slice sa L.length cap) L.length (oneCells L)) (ho7 : w7.ownsRow base 59 6 (.slice a' (L.length + 1) c') (L.length + 1) (oneCells L ++ x.cells)) (hg7 : w.grownBy w7 (Value.slice sa L.length cap).ownBlock) :
    Mo ((w7.setCell ⟨mp, 0, none⟩ (.slice a' (L.length + 1) c')).setCell ⟨mp, 1, none⟩ (.int .i64 (next + 1))) mp base (L ++ [x]) (next + 1) ∧
      Stp (MF mp base) w ((w7.setCell ⟨mp, 0, none⟩ (.slice a' (L.length + 1) c')).setCell ⟨mp, 1, none⟩ (.int .i64 (next + 1))) (MF mp base) ∧ w7.heap[mp]? = some (.cells #[.slice sa L.length cap, .int .i64 next] 56 (0, 0)) := by
  have hsz := hg7.size
  have hm7 : w7.heap[mp]? = some (.cells #[.slice sa L.length cap, .int .i64 next] 56 (0, 0)) := (hg7.block mp (by omega) (fun e => by have := (ho.lt mp e.symm).1; omega)).trans hb
  have h1 := heap_setCell_same w7 mp 0 _ _ (.slice a' (L.length + 1) c') hm7
  have h2 := heap_setCell_same _ mp 1 _ _ (.int .i64 (next + 1)) h1
  simp only [List.setIfInBounds_toArray, List.set_cons_zero, List.set_cons_succ] at h2
  refine ⟨⟨hlt, by simp; omega, a', c', ?_, ?_⟩, ?_, hm7⟩
  · rw [List.length_append]; exact h2
  · rw [List.length_append, oneCells_snoc]
    exact owns_same ho7 (fun q hq => by have := (ho7.lt q hq).1; rw [heap_setCell_other _ _ _ _ (by simp; omega), heap_setCell_other _ _ _ _ (by simp; omega)])
  · exact (((Stp.refl (MF mp base) w).grown hg7 (fun k hk _ => .inr (ho.lt k hk).1)).setCell (fun _ => .inl rfl) _).setCell (fun _ => .inl rfl) _

theorem keep_append {w w7 : World} {mp : Nat} {own : Option Nat} {a b : Value} (hg7 : w.grownBy w7 own) (k : Nat) (hk : k < w.heap.size) (h1 : k ≠ mp) (h2 : own ≠ some k) : ((w7.setCell ⟨mp, 0, none⟩ a).setCell ⟨mp, 1, none⟩ b).heap[k]? = w.heap[k]? := by
  rw [heap_setCell_other _ _ _ _ (by simpa using h1), heap_setCell_other _ _ _ _ (by simpa using h1)]
  exact hg7.block k hk (fun e => h2 e.symm)

/-- Where a step leads. -/
def StepTo (B0 : Nat) (w : World) (k0 p mb mp base : Nat) (w' : World) : Prop :=
  ∃ st', MInv (k0 + 1) st' ∧ Fo w' p mb st' ∧ Mo w' mp base (ones st'.l) st'.next ∧ (B0 ≤ w.heap.size → Below B0 w w') ∧
    ∀ A, A < w.heap.size → A ≠ p → A ≠ mb → A ≠ mp → (∀ sa n cap nx, w.heap[mp]? = some (.cells #[.slice sa n cap, nx] 56 (0, 0)) → (Value.slice sa n cap).ownBlock ≠ some A) → w'.heap[A]? = w.heap[A]?

section
set_option maxHeartbeats 1000000
theorem cl_rev {k0 : Nat} {st : FS} (hI : MInv k0 st) (hk0 : k0 ≤ 1000) {w : World} {K O B : Nat} {sa : Option Addr} {cap : Nat} {kv h : Int} (hk : w.cell? ⟨K, 0, none⟩ = some (.int .i64 kv)) (hkl : K < w.heap.size) (hkv : 0 ≤ kv)
    (hm : w.cell? ⟨O, 0, none⟩ = some (.slice sa st.l.length cap)) (hol : O < w.heap.size) (hv : Rd w 6 (.slice sa st.l.length cap) st.l.length (oneCells (ones st.l))) (hh : w.cell? ⟨B, 0, none⟩ = some (.int .i64 h)) (hbl : B < w.heap.size) (hh0 : h ≠ 0) :
    OneOn w (ones st.l) 39 #[.pointer (some ⟨K, 0, none⟩), .pointer (some ⟨O, 0, none⟩), .pointer (some ⟨B, 0, none⟩)] (fun x => undr st.l x.n h) := by
  intro x _ wx hb
  have b1 : wx.cell? ⟨K, 0, none⟩ = some (.int .i64 kv) := by rw [World.cell?_of_block (w := w) (a := ⟨K, 0, none⟩) (hb.block K hkl)]; exact hk
  have b2 : wx.cell? ⟨O, 0, none⟩ = some (.slice sa st.l.length cap) := by rw [World.cell?_of_block (w := w) (a := ⟨O, 0, none⟩) (hb.block O hol)]; exact hm
  have b3 : wx.cell? ⟨B, 0, none⟩ = some (.int .i64 h) := by rw [World.cell?_of_block (w := w) (a := ⟨B, 0, none⟩) (hb.block B hbl)]; exact hh
  have l1 : K < wx.heap.size := Nat.lt_of_lt_of_le hkl hb.size
  have l2 : O < wx.heap.size := Nat.lt_of_lt_of_le hol hb.size
  have l3 : B < wx.heap.size := Nat.lt_of_lt_of_le hbl hb.size
  have hv1 : Rd wx 6 (.slice sa st.l.length cap) st.l.length (oneCells (ones st.l)) := hv.same hb.size (fun g hg => hb.block g (hv.lt hg))
  obtain ⟨x0, x1, x2, x3, x4, x5⟩ := x
  have hu := fun (o : Obj) => undr_any hI hk0 (w := wx.alloc o) (mp := O) (cap := cap) (by rw [World.cell?_alloc_lt (a := ⟨O, 0, none⟩) _ _ l2]; exact b2) (by simp; omega) (hv1.same (by simp) (fun g hg => Below.heap_alloc _ _ _ (hv1.lt hg))) x0 h hh0
  show Calls Try.prog 39 #[.agg #[.int .i64 x0, .int .i64 x1, .int .i64 x2, .int .i64 x3, .int .u8 x4, .int .u32 x5], .pointer (some ⟨K, 0, none⟩), .pointer (some ⟨O, 0, none⟩), .pointer (some ⟨B, 0, none⟩)] wx fun ex w' => ex = .returned (.bool (undr st.l x0 h)) ∧ Below wx.heap.size wx w'
  have HU := Lib.hid hu
  clear hu hv hv1 hm hk hh hb hI
  generalize undr st.l x0 h = q at *
  go_enter Try.func39, Try.ntmps39
  go_wp2_with (go_at_call 40; go_must (refine (HU.out _).mono ?_); rintro ex w2 ⟨rfl, hb2⟩; have HB2 := Lib.hid hb2; clear hb2)
  go_ret
  exact ⟨rfl, ((Below.refl _ _).alloc (Nat.le_refl _) _).trans (HB2.out.mono (by simp))⟩

theorem cl_none {w : World} {K O B : Nat} {kv : Int} (hk : w.cell? ⟨K, 0, none⟩ = some (.int .i64 kv)) (hkl : K < w.heap.size) (hkv : kv < 0) (l : List One) :
    OneOn w l 39 #[.pointer (some ⟨K, 0, none⟩), .pointer (some ⟨O, 0, none⟩), .pointer (some ⟨B, 0, none⟩)] (fun _ => false) := by
  intro x _ wx hb
  have b1 : wx.cell? ⟨K, 0, none⟩ = some (.int .i64 kv) := by rw [World.cell?_of_block (w := w) (a := ⟨K, 0, none⟩) (hb.block K hkl)]; exact hk
  have l1 : K < wx.heap.size := Nat.lt_of_lt_of_le hkl hb.size
  obtain ⟨x0, x1, x2, x3, x4, x5⟩ := x
  show Calls Try.prog 39 #[.agg #[.int .i64 x0, .int .i64 x1, .int .i64 x2, .int .i64 x3, .int .u8 x4, .int .u32 x5], .pointer (some ⟨K, 0, none⟩), .pointer (some ⟨O, 0, none⟩), .pointer (some ⟨B, 0, none⟩)] wx fun ex w' => ex = .returned (.bool false) ∧ Below wx.heap.size wx w'
  clear hk hb
  go_enter Try.func39, Try.ntmps39
  go_wp2
  go_ret
  exact ⟨rfl, (Below.refl _ _).alloc (Nat.le_refl _) _⟩

theorem cl_own {k0 : Nat} {st : FS} (hI : MInv k0 st) (hk0 : k0 ≤ 1000) {w : World} {W O X : Nat} {sa : Option Addr} {cap : Nat} {u n : Int} (hw : w.cell? ⟨W, 0, none⟩ = some (.int .u32 u)) (hwl : W < w.heap.size)
    (hm : w.cell? ⟨O, 0, none⟩ = some (.slice sa st.l.length cap)) (hol : O < w.heap.size) (hv : Rd w 6 (.slice sa st.l.length cap) st.l.length (oneCells (ones st.l))) (hx : w.cell? ⟨X, 0, none⟩ = some (.int .i64 n)) (hxl : X < w.heap.size) :
    OneOn w (ones st.l) 43 #[.pointer (some ⟨W, 0, none⟩), .pointer (some ⟨O, 0, none⟩), .pointer (some ⟨X, 0, none⟩)] (fun y => (y.own == u) && undr st.l n y.n) := by
  intro y hy wx hb
  have b1 : wx.cell? ⟨W, 0, none⟩ = some (.int .u32 u) := by rw [World.cell?_of_block (w := w) (a := ⟨W, 0, none⟩) (hb.block W hwl)]; exact hw
  have b2 : wx.cell? ⟨O, 0, none⟩ = some (.slice sa st.l.length cap) := by rw [World.cell?_of_block (w := w) (a := ⟨O, 0, none⟩) (hb.block O hol)]; exact hm
  have b3 : wx.cell? ⟨X, 0, none⟩ = some (.int .i64 n) := by rw [World.cell?_of_block (w := w) (a := ⟨X, 0, none⟩) (hb.block X hxl)]; exact hx
  have l1 : W < wx.heap.size := Nat.lt_of_lt_of_le hwl hb.size
  have l2 : O < wx.heap.size := Nat.lt_of_lt_of_le hol hb.size
  have l3 : X < wx.heap.size := Nat.lt_of_lt_of_le hxl hb.size
  have hv1 : Rd wx 6 (.slice sa st.l.length cap) st.l.length (oneCells (ones st.l)) := hv.same hb.size (fun g hg => hb.block g (hv.lt hg))
  have hy0 : y.n ≠ 0 := by
    obtain ⟨e, he, rfl⟩ := List.mem_map.1 hy
    have := hI.hs e he
    simp only [One.of]; omega
  obtain ⟨x0, x1, x2, x3, x4, x5⟩ := y
  simp only at hy0
  have hu := fun (o : Obj) => undr_any hI hk0 (w := wx.alloc o) (mp := O) (cap := cap) (by rw [World.cell?_alloc_lt (a := ⟨O, 0, none⟩) _ _ l2]; exact b2) (by simp; omega) (hv1.same (by simp) (fun g hg => Below.heap_alloc _ _ _ (hv1.lt hg))) n x0 hy0
  show Calls Try.prog 43 #[.agg #[.int .i64 x0, .int .i64 x1, .int .i64 x2, .int .i64 x3, .int .u8 x4, .int .u32 x5], .pointer (some ⟨W, 0, none⟩), .pointer (some ⟨O, 0, none⟩), .pointer (some ⟨X, 0, none⟩)] wx fun ex w' => ex = .returned (.bool ((x5 == u) && undr st.l n x0)) ∧ Below wx.heap.size wx w'
  have HU := Lib.hid hu
  clear hu hv hv1 hm hw hx hb hI hy
  generalize undr st.l n x0 = q at *
  cases ho : x5 == u with
  | true =>
    rw [Bool.true_and]
    go_enter Try.func43, Try.ntmps43
    go_wp2_with (go_at_call 40; go_must (refine (HU.out _).mono ?_); rintro ex w2 ⟨rfl, hb2⟩; have HB2 := Lib.hid hb2; clear hb2)
    go_ret
    exact ⟨rfl, ((Below.refl _ _).alloc (Nat.le_refl _) _).trans (HB2.out.mono (by simp))⟩
  | false =>
    rw [Bool.false_and]
    go_enter Try.func43, Try.ntmps43
    go_wp2
    go_ret
    exact ⟨rfl, (Below.refl _ _).alloc (Nat.le_refl _) _⟩

theorem cl_leave {k0 : Nat} {st : FS} (hI : MInv k0 st) (hk0 : k0 ≤ 1000) {w : World} {W O : Nat} {sa : Option Addr} {cap : Nat} {u : Int} (hw : w.cell? ⟨W, 0, none⟩ = some (.int .u32 u)) (hwl : W < w.heap.size)
    (hm : w.cell? ⟨O, 0, none⟩ = some (.slice sa st.l.length cap)) (hol : O < w.heap.size) (hv : Rd w 6 (.slice sa st.l.length cap) st.l.length (oneCells (ones st.l))) :
    OneOn w (ones st.l) 41 #[.pointer (some ⟨O, 0, none⟩), .pointer (some ⟨W, 0, none⟩)] (leaves st.l u) := by
  intro x _ wx hb
  have b1 : wx.cell? ⟨W, 0, none⟩ = some (.int .u32 u) := by rw [World.cell?_of_block (w := w) (a := ⟨W, 0, none⟩) (hb.block W hwl)]; exact hw
  have b2 : wx.cell? ⟨O, 0, none⟩ = some (.slice sa st.l.length cap) := by rw [World.cell?_of_block (w := w) (a := ⟨O, 0, none⟩) (hb.block O hol)]; exact hm
  have l1 : W < wx.heap.size := Nat.lt_of_lt_of_le hwl hb.size
  have l2 : O < wx.heap.size := Nat.lt_of_lt_of_le hol hb.size
  have hv1 : Rd wx 6 (.slice sa st.l.length cap) st.l.length (oneCells (ones st.l)) := hv.same hb.size (fun g hg => hb.block g (hv.lt hg))
  obtain ⟨x0, x1, x2, x3, x4, x5⟩ := x
  have eg : ∀ args w, (callFunc 43 args).run Try.prog w = .ok (.enter 43 args) w := enters_of Try.func43 (by kernel_rfl) rfl
  have hB := heap_alloc_new wx (.cells #[.int .i64 x0, .int .i64 x1, .int .i64 x2, .int .i64 x3, .int .u8 x4, .int .u32 x5] 59)
  have hv2 : Rd (wx.alloc (.cells #[.int .i64 x0, .int .i64 x1, .int .i64 x2, .int .i64 x3, .int .u8 x4, .int .u32 x5] 59)) 6 (.slice sa st.l.length cap) st.l.length (oneCells (ones st.l)) := hv1.same (by simp) (fun g hg => Below.heap_alloc _ _ _ (hv1.lt hg))
  have hc := containsOne_any (l := ones st.l) (sa := sa) (cap := cap) (by rw [ones_len]; exact hv2) (by rw [ones_len]; have := hI.ln; omega) _ _ _ eg (cl_own hI hk0 (W := W) (O := O) (X := wx.heap.size) (u := u) (n := x0) (by rw [World.cell?_alloc_lt (a := ⟨W, 0, none⟩) _ _ l1]; exact b1) (by simp; omega) (by rw [World.cell?_alloc_lt (a := ⟨O, 0, none⟩) _ _ l2]; exact b2) (by simp; omega) hv2 (by rw [cell_of_row _ _ _ _ _ _ hB]; rfl) (by simp))
  rw [ones_len] at hc
  show Calls Try.prog 41 #[.agg #[.int .i64 x0, .int .i64 x1, .int .i64 x2, .int .i64 x3, .int .u8 x4, .int .u32 x5], .pointer (some ⟨O, 0, none⟩), .pointer (some ⟨W, 0, none⟩)] wx fun ex w' => ex = .returned (.bool ((ones st.l).any fun y => (y.own == u) && undr st.l x0 y.n)) ∧ Below wx.heap.size wx w'
  generalize ((ones st.l).any fun y => (y.own == u) && undr st.l x0 y.n) = q at *
  have HC := Lib.hid hc
  clear hc hv hv1 hv2 hm hw hb hI eg hB
  go_enter Try.func41, Try.ntmps41
  go_wp2_with (go_at_call 42; go_must (refine HC.out.mono ?_); rintro ex w2 ⟨rfl, hb2⟩; have HB2 := Lib.hid hb2; clear hb2)
  go_ret
  exact ⟨rfl, ((Below.refl _ _).alloc (Nat.le_refl _) _).trans (HB2.out.mono (by simp))⟩
end
end Go.Proofs.Ytoeeobebkalglaa
