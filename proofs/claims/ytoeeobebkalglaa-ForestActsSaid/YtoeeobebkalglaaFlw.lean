/- A walk of the chapter's example: it tells true. -/
import Derived.Test.YtoeeobebkalglaaFlv
namespace Go.Ease
open Go.RowKit
theorem Stp.to_below {F F' : Nat → Prop} {w w' : World} (h : Stp F w w' F') (n : Nat) (hn : n ≤ w.heap.size) (hF : ∀ k, F k → n ≤ k) : Below n w w' :=
  ⟨h.os, h.tape, h.output, h.size, fun k hk => h.block k (by omega) (fun hf => by have := hF k hf; omega)⟩
def exA : FS := FS.root ⟨[], 0⟩ ⟨⟨0, 1⟩, 5, 31, 7, ⟨0, 0⟩, 0⟩
def exB : FS := exA.dele ⟨0, 1⟩ ⟨0, 2⟩ 5 1 8
theorem exOk : FS.Ok ⟨[], 0⟩ := ⟨by simp, List.Pairwise.nil, by simp, by decide, by simp, by simp⟩
theorem FS.Ok.root {st : FS} (h : st.Ok) (e : Ent) (hk : e.h.ok) (hn : (st.find e.h).isSome = false) (hx : st.next + 1 ≤ 1000000) (hl : st.l.length + 1 ≤ 1000000) : (st.root e).Ok where
  hnd := by
    simp only [FS.root, List.map_append, List.map_cons, List.map_nil]
    refine List.nodup_append.2 ⟨h.hnd, by simp, ?_⟩
    intro a ha b hb
    simp only [List.mem_singleton] at hb
    subst hb
    obtain ⟨x, hx, rfl⟩ := List.mem_map.1 ha
    exact FS.find_none (by simpa using hn) x hx
  ord := by
    simp only [FS.root]
    refine List.pairwise_append.2 ⟨h.ord, by simp, ?_⟩
    intro a ha b hb
    simp only [List.mem_singleton] at hb
    subst hb
    exact (h.bnd a ha).2
  bnd := by
    intro a ha
    simp only [FS.root, List.mem_append, List.mem_singleton] at ha ⊢
    have := h.next
    rcases ha with ha | rfl
    · have := h.bnd a ha; omega
    · simp only; omega
  next := by have := h.next; simp only [FS.root]; omega
  len := by simp only [FS.root, List.length_append, List.length_cons, List.length_nil]; omega
  hok := by
    intro a ha
    simp only [FS.root, List.mem_append, List.mem_singleton] at ha
    rcases ha with ha | rfl
    · exact h.hok a ha
    · exact ⟨hk, by simp only [Hd.ok]; omega⟩
theorem FS.Ok.dele {st : FS} (h : st.Ok) (hd n : Hd) (obj rts own : Int) (hdk : hd.ok) (hk : n.ok) (hn : (st.find n).isSome = false) (hx : st.next + 1 ≤ 1000000) (hl : st.l.length + 1 ≤ 1000000) : (st.dele hd n obj rts own).Ok where
  hnd := (h.root ⟨n, obj, rts, own, hd, 0⟩ hk hn hx hl).hnd |> fun x => by simpa [FS.root, FS.dele] using x
  ord := by
    simp only [FS.dele]
    refine List.pairwise_append.2 ⟨h.ord, by simp, ?_⟩
    intro a ha b hb
    simp only [List.mem_singleton] at hb
    subst hb
    exact (h.bnd a ha).2
  bnd := by
    intro a ha
    simp only [FS.dele, List.mem_append, List.mem_singleton] at ha ⊢
    have := h.next
    rcases ha with ha | rfl
    · have := h.bnd a ha; omega
    · simp only; omega
  next := by have := h.next; simp only [FS.dele]; omega
  len := by simp only [FS.dele, List.length_append, List.length_cons, List.length_nil]; omega
  hok := by
    intro a ha
    simp only [FS.dele, List.mem_append, List.mem_singleton] at ha
    rcases ha with ha | rfl
    · exact h.hok a ha
    · exact ⟨hk, hdk⟩
end Go.Ease
namespace Go.Proofs.Ytoeeobebkalglaa
open Go.RowKit Go.Ease

theorem exAok : exA.Ok := exOk.root _ (by simp [Hd.ok]) (by decide) (by decide) (by decide)
theorem exBok : exB.Ok := exAok.dele _ _ _ _ _ (by simp [Hd.ok]) (by simp [Hd.ok]) (by decide) (by decide) (by decide)

section
set_option maxHeartbeats 1000000
set_option maxRecDepth 100000 in
theorem lives_true (w : World) :
    Calls Try.prog 6 #[] w fun e w' => e = .returned (.bool true) ∧ Below w.heap.size w w' := by
  have hh1 := handle_any 1 (by decide)
  have hh2 := handle_any 2 (by decide)
  simp only [Hd.v] at hh1 hh2
  have hR := fun (wx : World) (hx : Fo wx (w.heap.size + 1) w.heap.size ⟨[], 0⟩) => root_ok hx exOk ⟨⟨0, 1⟩, 5, 31, 7, ⟨0, 0⟩, 0⟩ (by simp [Hd.ok]) (by decide) (by decide) (by decide) (by decide) (by decide)
  have hD := fun (wx : World) (hx : Fo wx (w.heap.size + 1) w.heap.size exA) => deleg_ok hx exAok ⟨0, 1⟩ ⟨0, 2⟩ (by simp [Hd.ok]) (by simp [Hd.ok]) 8 1 ⟨⟨0, 1⟩, 5, 31, 7, ⟨0, 0⟩, 0⟩ (by decide) (by decide) (by decide) (by decide) (by decide) (by decide) (by decide)
  have hV := fun (wx : World) (hx : Fo wx (w.heap.size + 1) w.heap.size exB) => revoke_yes hx exBok ⟨0, 1⟩ (by simp [Hd.ok]) (by decide)
  have hgone : exB.gone ⟨0, 1⟩ = [⟨⟨0, 1⟩, 5, 31, 7, ⟨0, 0⟩, 0⟩, ⟨⟨0, 2⟩, 5, 1, 8, ⟨0, 1⟩, 1⟩] := by decide
  rw [hgone] at hV
  have hT := fun (wx : World) (hx : Fo wx (w.heap.size + 1) w.heap.size (exB.rev ⟨0, 1⟩)) => taken_any hx ⟨0, 2⟩ (by simp [Hd.ok])
  have hnt : ((exB.rev ⟨0, 1⟩).find ⟨0, 2⟩).isSome = false := by decide
  rw [hnt] at hT
  have hFF : ∀ k, FS.F (w.heap.size + 1) w.heap.size k → w.heap.size ≤ k := fun k hk => by rcases hk with hk | hk <;> omega
  have HN := Lib.hid (And.intro hh1 hh2)
  have HR := Lib.hid hR
  have HD := Lib.hid hD
  have HV := Lib.hid hV
  have HT := Lib.hid hT
  have HFF := Lib.hid hFF
  clear hh1 hh2 hR hD hV hT hgone hnt hFF
  go_enter Try.func6, Try.ntmps6
  go_upto_region 2 with (go_at_call 7; go_must (refine (new_any _).mono ?_); rintro e w1 ⟨rfl, hb, hf⟩; have H1 := Lib.hid (And.intro hb hf); clear hb hf)
  go_upto_region 3 with (first | (go_at_call 9; go_must (refine (HN.out.1 _).mono ?_); rintro e w2 ⟨rfl, hb⟩; have H2 := Lib.hid (And.intro (H1.out.1.trans (hb.mono H1.out.1.size)) (H1.out.2.below hb)); clear hb) | (go_at_call 8; go_must (refine (HR.out _ H2.out.2).mono ?_); rintro e w3 ⟨rfl, hs, hf⟩; have H3 := Lib.hid (And.intro (H2.out.1.trans (hs.to_below _ H2.out.1.size HFF.out)) hf); clear hs hf))
  go_upto_region 4 with (first | (go_at_call 9; go_must (first | (refine (HN.out.1 w3).mono ?_; rintro e w4 ⟨rfl, hb⟩; have H4 := Lib.hid (And.intro (H3.out.1.trans (hb.mono H3.out.1.size)) (H3.out.2.below hb)); clear hb) | (refine (HN.out.2 _).mono ?_; rintro e w5 ⟨rfl, hb⟩; have H5 := Lib.hid (And.intro (H4.out.1.trans (hb.mono H4.out.1.size)) (H4.out.2.below hb)); clear hb))) | (go_at_call 12; go_must (refine (HD.out _ H5.out.2).mono ?_); rintro e w6 ⟨rfl, hs, hf⟩; have H6 := Lib.hid (And.intro (H5.out.1.trans (hs.to_below _ H5.out.1.size HFF.out)) hf); clear hs hf))
  go_upto_region 5 with (first | (go_at_call 9; go_must (refine (HN.out.1 _).mono ?_); rintro e w7 ⟨rfl, hb⟩; have H7 := Lib.hid (And.intro (H6.out.1.trans (hb.mono H6.out.1.size)) (H6.out.2.below hb)); clear hb) | (go_at_call 17; go_must (refine (HV.out _ H7.out.2).mono ?_); rintro e w8 ⟨sa, cap, rfl, hs, hf, hr, -⟩; have H8 := Lib.hid (And.intro (H7.out.1.trans (hs.to_below _ H7.out.1.size HFF.out)) (And.intro hf hr)); clear hs hf hr))
  rcases H8.out.2.2.2 with ⟨hv, hn0⟩ | ⟨g, off, cap', hv, hnc, hgl, hgc⟩
  · simp at hn0
  · simp only [Value.slice.injEq] at hv
    obtain ⟨rfl, _, rfl⟩ := hv
    have c1 : w8.cell? ⟨g, off + 8 + 1, none⟩ = some (.int .u64 2) := hgc 9 _ rfl
    have c4 : w8.cell? ⟨g, off + 8 + 4, none⟩ = some (.int .u32 8) := hgc 12 _ rfl
    have c1' : w8.cell? ⟨g, off + 9, none⟩ = some (.int .u64 2) := hgc 9 _ rfl
    have c4' : w8.cell? ⟨g, off + 12, none⟩ = some (.int .u32 8) := hgc 12 _ rfl
    clear hgc
    go_wp2_with (first | (go_at_call 9; go_must (refine (HN.out.2 _).mono ?_); rintro e w9 ⟨rfl, hb⟩; have H9 := Lib.hid (And.intro (H8.out.1.trans (hb.mono H8.out.1.size)) (H8.out.2.1.below hb)); clear hb) | (go_at_call 19; go_must (refine (HT.out _ H9.out.2).mono ?_); rintro e w10 ⟨rfl, hb⟩; have H10 := Lib.hid (H9.out.1.trans (hb.mono H9.out.1.size)); clear hb))
    go_ret
    exact ⟨rfl, H10.out⟩
end
end Go.Proofs.Ytoeeobebkalglaa
