/- The law ForestNil: whatever the number and whoever asks, a forest that isn't there has no handle, and none can be made. -/
import Derived.Test.YtoeeobebkalglaaFlw
namespace Go.Proofs.Ytoeeobebkalglaa
open Go.RowKit Go.Ease

section
set_option maxHeartbeats 1000000
theorem handle_wrap (n : Int) (w : World) :
    Calls Try.prog 9 #[.int .i64 n] w fun e w' => e = .returned (.agg #[.int .u64 0, .int .u64 (IntKind.u64.wrap n)]) ∧ Below w.heap.size w w' := by
  go_enter Try.func9, Try.ntmps9
  go_wp2
  (try simp only [Exit.inBlock, Exit.then])
  refine bodyPost_ret (v := .agg #[.int .u64 0, .int .u64 (IntKind.u64.wrap n)]) ?_ rfl ⟨rfl, ?_⟩
  · exact results_cell_row rfl _ _ w.heap.size 30 _ (0, 0) _ rfl (heap_alloc_new w _) Try.underlying30 rfl (by kernel_rfl)
  · (repeat' (first | exact Below.refl _ _ | refine Below.setCell ?_ (by simp) _ | refine Below.alloc ?_ (by simp <;> omega) _))

set_option maxHeartbeats 4000000 in
theorem nil_true (n u : Int) (w : World) :
    Calls Try.prog 4 #[.int .i64 n, .int .u32 u] w fun e w' => e = .returned (.bool true) ∧ Below w.heap.size w w' := by
  have hh := handle_wrap n
  have hh1 := handle_any 1 (by decide)
  have hh2 := handle_any 2 (by decide)
  generalize IntKind.u64.wrap n = m at hh
  simp only [Hd.v] at hh1 hh2
  have hF := fun (wx : World) => find_nil ⟨0, m⟩ u wx
  have hT := fun (wx : World) => taken_nil ⟨0, m⟩ wx
  have hR := fun (wx : World) => root_nil ⟨⟨0, 1⟩, 0, 0, 0, ⟨0, 0⟩, 0⟩ wx
  have hD := fun (wx : World) => deleg_nil ⟨0, m⟩ ⟨0, 2⟩ u u 0 wx
  have hV := fun (wx : World) => revoke_nil ⟨0, m⟩ wx
  have HL := Lib.hid lives_true
  have HH := Lib.hid (And.intro hh (And.intro hh1 hh2))
  have HF := Lib.hid hF
  have HT := Lib.hid hT
  have HR := Lib.hid hR
  have HD := Lib.hid hD
  have HV := Lib.hid hV
  have H := Lib.hid (Below.refl w.heap.size w)
  clear hh hh1 hh2 hF hT hR hD hV
  go_enter Try.func4, Try.ntmps4
  go_wp2_with (first | (go_at_call 6; go_must (refine (HL.out _).mono ?_); rintro e w1 ⟨rfl, hb⟩; have H := Lib.hid (show Below w.heap.size w w1 by first | exact H.out.trans (hb.mono H.out.size) | exact (H.out.alloc H.out.size _).trans (hb.mono (by have := H.out.size; simp; omega))); clear hb) | (go_at_call 9; go_must (first | refine (HH.out.1 _).mono ?_ | refine (HH.out.2.1 _).mono ?_ | refine (HH.out.2.2 _).mono ?_); rintro e w2 ⟨rfl, hb⟩; have H := Lib.hid (show Below w.heap.size w w2 by first | exact H.out.trans (hb.mono H.out.size) | exact (H.out.alloc H.out.size _).trans (hb.mono (by have := H.out.size; simp; omega))); clear hb) | (go_at_call 18; go_must (refine (HF.out _).mono ?_); rintro e w3 ⟨rfl, hb⟩; have H := Lib.hid (show Below w.heap.size w w3 by first | exact H.out.trans (hb.mono H.out.size) | exact (H.out.alloc H.out.size _).trans (hb.mono (by have := H.out.size; simp; omega))); clear hb; simp only [Ent.v, Ent.cells, Ent.zero]) | (go_at_call 19; go_must (refine (HT.out _).mono ?_); rintro e w4 ⟨rfl, hb⟩; have H := Lib.hid (show Below w.heap.size w w4 by first | exact H.out.trans (hb.mono H.out.size) | exact (H.out.alloc H.out.size _).trans (hb.mono (by have := H.out.size; simp; omega))); clear hb) | (go_at_call 8; go_must (refine (HR.out _).mono ?_); rintro e w5 ⟨rfl, hb⟩; have H := Lib.hid (show Below w.heap.size w w5 by first | exact H.out.trans (hb.mono H.out.size) | exact (H.out.alloc H.out.size _).trans (hb.mono (by have := H.out.size; simp; omega))); clear hb) | (go_at_call 12; go_must (refine (HD.out _).mono ?_); rintro e w6 ⟨rfl, hb⟩; have H := Lib.hid (show Below w.heap.size w w6 by first | exact H.out.trans (hb.mono H.out.size) | exact (H.out.alloc H.out.size _).trans (hb.mono (by have := H.out.size; simp; omega))); clear hb) | (go_at_call 10; go_must (refine (list_nil _ _).mono ?_); rintro e w7 ⟨rfl, rfl⟩) | (go_at_call 17; go_must (refine (HV.out _).mono ?_); rintro e w8 ⟨rfl, hb⟩; have H := Lib.hid (show Below w.heap.size w w8 by first | exact H.out.trans (hb.mono H.out.size) | exact (H.out.alloc H.out.size _).trans (hb.mono (by have := H.out.size; simp; omega))); clear hb) | (go_at_call 21; go_must (refine (leave_nil _ _).mono ?_); rintro e w9 ⟨rfl, hb⟩; have H := Lib.hid (show Below w.heap.size w w9 by first | exact H.out.trans (hb.mono H.out.size) | exact (H.out.alloc H.out.size _).trans (hb.mono (by have := H.out.size; simp; omega))); clear hb) | (go_at_call 16; go_must (refine (count_nil _ _).mono ?_); rintro e w10 ⟨rfl, hb⟩; have H := Lib.hid (show Below w.heap.size w w10 by first | exact H.out.trans (hb.mono H.out.size) | exact (H.out.alloc H.out.size _).trans (hb.mono (by have := H.out.size; simp; omega))); clear hb) | (go_at_call 22; go_must (refine (held_nil _ _).mono ?_); rintro e w11 ⟨rfl, hb⟩; have H := Lib.hid (show Below w.heap.size w w11 by first | exact H.out.trans (hb.mono H.out.size) | exact (H.out.alloc H.out.size _).trans (hb.mono (by have := H.out.size; simp; omega))); clear hb))
  go_ret
  exact ⟨rfl, H.out⟩
end
end Go.Proofs.Ytoeeobebkalglaa
