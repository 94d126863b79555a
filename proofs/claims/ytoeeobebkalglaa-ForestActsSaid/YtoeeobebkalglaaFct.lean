/- Walks of Count and Held, and of the closures that List is handed. -/
import Derived.Test.YtoeeobebkalglaaFdl
namespace Go.Proofs.Ytoeeobebkalglaa
open Go.RowKit Go.Ease

section
set_option maxHeartbeats 400000
theorem pred_all (w : World) (l : List Ent) : PredOn w l 46 #[] (fun _ => true) := by
  intro e he wx hx
  obtain ⟨⟨e0, e1⟩, e2, e3, e4, ⟨e5, e6⟩, e7⟩ := e
  show Calls Try.prog 46 #[.agg #[.int .u64 e0, .int .u64 e1, .int .i64 e2, .int .u8 e3, .int .u32 e4, .int .u64 e5, .int .u64 e6, .int .i64 e7]] wx _
  clear he hx
  go_enter Try.func46, Try.ntmps46
  go_wp2
  go_ret
  refine ⟨rfl, ?_⟩
  (repeat' (first | exact Below.refl _ _ | refine Below.drew ?_ | refine Below.setCell ?_ (by simp <;> omega) _ | refine Below.alloc ?_ (by simp <;> omega) _))

theorem pred_obj {w : World} {B : Nat} {x : Int} (hB : w.cell? ⟨B, 0, none⟩ = some (.int .i64 x)) (hlt : B < w.heap.size) (l : List Ent) :
    PredOn w l 30 #[.pointer (some ⟨B, 0, none⟩)] (fun e => e.obj == x) := by
  intro e he wx hx
  have hc : wx.cell? ⟨B, 0, none⟩ = some (.int .i64 x) := by rw [World.cell?_of_block (w := w) (a := ⟨B, 0, none⟩) (hx.block B hlt)]; exact hB
  have hl : B < wx.heap.size := Nat.lt_of_lt_of_le hlt hx.size
  obtain ⟨⟨e0, e1⟩, e2, e3, e4, ⟨e5, e6⟩, e7⟩ := e
  show Calls Try.prog 30 #[.agg #[.int .u64 e0, .int .u64 e1, .int .i64 e2, .int .u8 e3, .int .u32 e4, .int .u64 e5, .int .u64 e6, .int .i64 e7], .pointer (some ⟨B, 0, none⟩)] wx fun ex w' => ex = .returned (.bool (e2 == x)) ∧ Below wx.heap.size wx w'
  clear he hx hB hlt
  go_enter Try.func30, Try.ntmps30
  go_wp2
  go_ret
  refine ⟨rfl, ?_⟩
  (repeat' (first | exact Below.refl _ _ | refine Below.drew ?_ | refine Below.setCell ?_ (by simp <;> omega) _ | refine Below.alloc ?_ (by simp <;> omega) _))

theorem pred_own1 {w : World} {B : Nat} {x : Int} (hB : w.cell? ⟨B, 0, none⟩ = some (.int .u32 x)) (hlt : B < w.heap.size) (l : List Ent) :
    PredOn w l 33 #[.pointer (some ⟨B, 0, none⟩)] (fun e => e.own == x) := by
  intro e he wx hx
  have hc : wx.cell? ⟨B, 0, none⟩ = some (.int .u32 x) := by rw [World.cell?_of_block (w := w) (a := ⟨B, 0, none⟩) (hx.block B hlt)]; exact hB
  have hl : B < wx.heap.size := Nat.lt_of_lt_of_le hlt hx.size
  obtain ⟨⟨e0, e1⟩, e2, e3, e4, ⟨e5, e6⟩, e7⟩ := e
  show Calls Try.prog 33 #[.agg #[.int .u64 e0, .int .u64 e1, .int .i64 e2, .int .u8 e3, .int .u32 e4, .int .u64 e5, .int .u64 e6, .int .i64 e7], .pointer (some ⟨B, 0, none⟩)] wx fun ex w' => ex = .returned (.bool (e4 == x)) ∧ Below wx.heap.size wx w'
  clear he hx hB hlt
  go_enter Try.func33, Try.ntmps33
  go_wp2
  go_ret
  refine ⟨rfl, ?_⟩
  (repeat' (first | exact Below.refl _ _ | refine Below.drew ?_ | refine Below.setCell ?_ (by simp <;> omega) _ | refine Below.alloc ?_ (by simp <;> omega) _))

theorem pred_own2 {w : World} {B : Nat} {x : Int} (hB : w.cell? ⟨B, 0, none⟩ = some (.int .u32 x)) (hlt : B < w.heap.size) (l : List Ent) :
    PredOn w l 35 #[.pointer (some ⟨B, 0, none⟩)] (fun e => e.own == x) := by
  intro e he wx hx
  have hc : wx.cell? ⟨B, 0, none⟩ = some (.int .u32 x) := by rw [World.cell?_of_block (w := w) (a := ⟨B, 0, none⟩) (hx.block B hlt)]; exact hB
  have hl : B < wx.heap.size := Nat.lt_of_lt_of_le hlt hx.size
  obtain ⟨⟨e0, e1⟩, e2, e3, e4, ⟨e5, e6⟩, e7⟩ := e
  show Calls Try.prog 35 #[.agg #[.int .u64 e0, .int .u64 e1, .int .i64 e2, .int .u8 e3, .int .u32 e4, .int .u64 e5, .int .u64 e6, .int .i64 e7], .pointer (some ⟨B, 0, none⟩)] wx fun ex w' => ex = .returned (.bool (e4 == x)) ∧ Below wx.heap.size wx w'
  clear he hx hB hlt
  go_enter Try.func35, Try.ntmps35
  go_wp2
  go_ret
  refine ⟨rfl, ?_⟩
  (repeat' (first | exact Below.refl _ _ | refine Below.drew ?_ | refine Below.setCell ?_ (by simp <;> omega) _ | refine Below.alloc ?_ (by simp <;> omega) _))

theorem count_nil (x : Int) (w : World) :
    Calls Try.prog 16 #[.pointer none, .int .i64 x] w fun ex w' => ex = .returned (.int .i64 0) ∧ Below w.heap.size w w' := by
  have hl := fun fv wx => list_nil fv wx
  go_enter Try.func16, Try.ntmps16
  go_wp2_with (go_at_call 10; refine (hl _ _).mono ?_; rintro ex w1 ⟨rfl, rfl⟩)
  go_ret
  refine ⟨rfl, ?_⟩
  (repeat' (first | exact Below.refl _ _ | refine Below.drew ?_ | refine Below.setCell ?_ (by simp <;> omega) _ | refine Below.alloc ?_ (by simp <;> omega) _))

theorem held_nil (x : Int) (w : World) :
    Calls Try.prog 22 #[.pointer none, .int .u32 x] w fun ex w' => ex = .returned (.int .i64 0) ∧ Below w.heap.size w w' := by
  have hl := fun fv wx => list_nil fv wx
  go_enter Try.func22, Try.ntmps22
  go_wp2_with (go_at_call 10; refine (hl _ _).mono ?_; rintro ex w1 ⟨rfl, rfl⟩)
  go_ret
  refine ⟨rfl, ?_⟩
  (repeat' (first | exact Below.refl _ _ | refine Below.drew ?_ | refine Below.setCell ?_ (by simp <;> omega) _ | refine Below.alloc ?_ (by simp <;> omega) _))

theorem count_any {w : World} {p mb : Nat} {st : FS} (h : Fo w p mb st) (hO : st.Ok) (x : Int) :
    Calls Try.prog 16 #[.pointer (some ⟨p, 0, none⟩), .int .i64 x] w fun ex w' => ex = .returned (.int .i64 (st.l.filter (fun e => e.obj == x)).length) ∧ Below w.heap.size w w' := by
  have eg : ∀ args w, (callFunc 30 args).run Try.prog w = .ok (.enter 30 args) w := enters_of Try.func30 (by kernel_rfl) rfl
  have hl := list_any (h.below ((Below.refl _ _).alloc (Nat.le_refl _) (.cells #[.int .i64 x] 3))) hO _ #[.pointer (some ⟨w.heap.size, 0, none⟩)] (fun e => e.obj == x) eg (pred_obj (B := w.heap.size) (x := x) (by go_simp) (by simp) st.l)
  have HL := Lib.hid hl
  clear hl eg hO h
  go_enter Try.func16, Try.ntmps16
  go_wp2_with (go_at_call 10; go_must (refine HL.out.mono ?_); rintro ex w1 ⟨sa, cap, rfl, hb, -⟩; have HB := Lib.hid hb; clear hb)
  go_ret
  exact ⟨rfl, ((Below.refl _ _).alloc (Nat.le_refl _) _).trans (HB.out.mono (by simp))⟩

theorem held_any {w : World} {p mb : Nat} {st : FS} (h : Fo w p mb st) (hO : st.Ok) (x : Int) :
    Calls Try.prog 22 #[.pointer (some ⟨p, 0, none⟩), .int .u32 x] w fun ex w' => ex = .returned (.int .i64 (st.l.filter (fun e => e.own == x)).length) ∧ Below w.heap.size w w' := by
  have eg : ∀ args w, (callFunc 35 args).run Try.prog w = .ok (.enter 35 args) w := enters_of Try.func35 (by kernel_rfl) rfl
  have hl := list_any (h.below ((Below.refl _ _).alloc (Nat.le_refl _) (.cells #[.int .u32 x] 33))) hO _ #[.pointer (some ⟨w.heap.size, 0, none⟩)] (fun e => e.own == x) eg (pred_own2 (B := w.heap.size) (x := x) (by go_simp) (by simp) st.l)
  have HL := Lib.hid hl
  clear hl eg hO h
  go_enter Try.func22, Try.ntmps22
  go_wp2_with (go_at_call 10; go_must (refine HL.out.mono ?_); rintro ex w1 ⟨sa, cap, rfl, hb, -⟩; have HB := Lib.hid hb; clear hb)
  go_ret
  exact ⟨rfl, ((Below.refl _ _).alloc (Nat.le_refl _) _).trans (HB.out.mono (by simp))⟩
end
end Go.Proofs.Ytoeeobebkalglaa
