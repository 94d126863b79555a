/- Plain law: whatever is delegated on and on, nothing under a handle has a right that this one hasn't. No program stands in it. -/
import Derived.Test.YtoeeobebkalglaaFlw
namespace Go.Ease
open Go.RowKit

/-! ### rights -/
theorem hasB_bv (s t : Int) (ht : 0 ≤ t ∧ t < 256) : hasB s t = true ↔ BitVec.ofInt 8 s &&& BitVec.ofInt 8 t = BitVec.ofInt 8 t := by
  have e2 : ∀ b : BitVec 8, IntKind.u8.wrap (b.toNat : Int) = b.toNat := fun b => by
    have := b.isLt
    simp [IntKind.wrap, IntKind.bits, IntKind.signed]; omega
  have e3 : ((BitVec.ofInt 8 t).toNat : Int) = t := by
    rw [BitVec.toNat_ofInt]
    omega
  have e4 : bits .and .u8 s t = ((BitVec.ofInt 8 s &&& BitVec.ofInt 8 t).toNat : Int) := e2 (BitVec.ofInt 8 s &&& BitVec.ofInt 8 t)
  unfold hasB
  rw [e4, beq_iff_eq]
  constructor
  · intro h
    apply BitVec.eq_of_toNat_eq
    omega
  · intro h
    rw [h, e3]

theorem hasB_refl (s : Int) (hs : 0 ≤ s ∧ s < 256) : hasB s s = true := (hasB_bv s s hs).2 (BitVec.and_self)

theorem hasB_trans {a b c : Int} (hb : 0 ≤ b ∧ b < 256) (hc : 0 ≤ c ∧ c < 256) (h1 : hasB a b = true) (h2 : hasB b c = true) : hasB a c = true := by
  rw [hasB_bv a b hb] at h1
  rw [hasB_bv b c hc] at h2
  rw [hasB_bv a c hc]
  rw [← h2, ← BitVec.and_assoc, h1]

theorem attB_ok {s t : Int} (h : (attB s t).2 = 0) : attB s t = (t, 0) ∧ s ≤ 31 ∧ t ≤ 31 ∧ hasB s 8 = true ∧ hasB s t = true := by
  unfold attB attQ at *
  by_cases h1 : s ≤ 31 <;> by_cases h2 : t ≤ 31 <;> cases h3 : hasB s 8 <;> cases h4 : hasB s t <;> simp_all

/-! ### what holds as handles are made -/
structure RInv (r0 : Int) (i : Nat) (st : FS) : Prop where
  ok : st.Ok
  nexti : st.next ≤ i + 1
  leni : st.l.length ≤ i + 1
  head : ∃ t, st.l = ⟨⟨0, 1⟩, 3, r0, 1, ⟨0, 0⟩, 0⟩ :: t
  each : ∀ e ∈ st.l, hasB r0 e.rts = true ∧ e.obj = 3 ∧ 0 ≤ e.rts ∧ e.rts ≤ 31 ∧ (0 < e.ord → ∃ p ∈ st.l, p.h = e.par ∧ hasB p.rts e.rts = true ∧ p.ord < e.ord)
  hs : ∀ e ∈ st.l, e.h.hi = 0 ∧ 1 ≤ e.h.lo ∧ e.h.lo ≤ i + 1

theorem FS.find_mem {st : FS} (h : st.Ok) {e : Ent} (he : e ∈ st.l) : st.find e.h = some e := by
  cases hf : st.find e.h with
  | none => exact absurd rfl (FS.find_none hf e he)
  | some x =>
    obtain ⟨hx, hxh⟩ := FS.find_some hf
    obtain ⟨a, ha, rfl⟩ := List.getElem_of_mem hx
    obtain ⟨b, hb, rfl⟩ := List.getElem_of_mem he
    have hnd := h.hnd
    rw [List.Nodup, List.pairwise_map, List.pairwise_iff_getElem] at hnd
    rcases Nat.lt_trichotomy a b with hab | hab | hab
    · exact absurd hxh (hnd a b ha hb hab)
    · subst hab; rfl
    · exact absurd hxh.symm (hnd b a hb ha hab)

theorem RInv.stay {r0 : Int} {i : Nat} {st : FS} (h : RInv r0 i st) : RInv r0 (i + 1) st :=
  { h with nexti := by have := h.nexti; omega, leni := by have := h.leni; omega, hs := fun e he => by have := h.hs e he; omega }

theorem RInv.fresh {r0 : Int} {i : Nat} {st : FS} (h : RInv r0 i st) : (st.find ⟨0, i + 2⟩).isSome = false := by
  cases hf : st.find ⟨0, (i : Int) + 2⟩ with
  | none => rfl
  | some e =>
    obtain ⟨he, hh⟩ := FS.find_some hf
    have := h.hs e he
    rw [hh] at this
    simp only at this
    omega

theorem RInv.dele {r0 : Int} {i : Nat} {st : FS} (h : RInv r0 i st) (hi : i ≤ 100) {p : Ent} (hp : p ∈ st.l) (want to : Int) (hw : 0 ≤ want ∧ want < 256) (ha : (attB p.rts want).2 = 0) :
    RInv r0 (i + 1) (st.dele p.h ⟨0, i + 2⟩ p.obj want to) := by
  obtain ⟨_, hs31, hw31, _, hpw⟩ := attB_ok ha
  obtain ⟨q1, q2, q3, q4, q5⟩ := h.each p hp
  have hn := h.nexti
  have hl := h.leni
  have hpo := h.ok.bnd p hp
  refine ⟨h.ok.dele _ _ _ _ _ (h.ok.hok p hp).1 (by simp only [Hd.ok]; omega) h.fresh (by omega) (by omega), by simp only [FS.dele]; omega, by simp only [FS.dele, List.length_append, List.length_cons, List.length_nil]; omega, ?_, ?_, ?_⟩
  · obtain ⟨t, ht⟩ := h.head
    exact ⟨t ++ [⟨⟨0, i + 2⟩, p.obj, want, to, p.h, st.next⟩], by simp only [FS.dele]; rw [ht]; rfl⟩
  · intro e he
    simp only [FS.dele, List.mem_append, List.mem_singleton] at he ⊢
    rcases he with he | rfl
    · obtain ⟨a1, a2, a3, a4, a5⟩ := h.each e he
      refine ⟨a1, a2, a3, a4, fun ho => ?_⟩
      obtain ⟨x, hx, hx2⟩ := a5 ho
      exact ⟨x, .inl hx, hx2⟩
    · exact ⟨hasB_trans (by omega) (by omega) q1 hpw, q2, hw.1, hw31, fun _ => ⟨p, .inl hp, rfl, hpw, hpo.2⟩⟩
  · intro e he
    simp only [FS.dele, List.mem_append, List.mem_singleton] at he
    rcases he with he | rfl
    · have := h.hs e he; omega
    · exact ⟨rfl, by simp only; omega, by simp only; omega⟩

theorem grow1_mono {I : List Hd} {e : Ent} {x : Hd} (hx : x ∈ I) : x ∈ grow1 I e := by
  unfold grow1
  split
  · split
    · exact hx
    · exact List.mem_cons_of_mem _ hx
  · exact hx

/-- All is under the first one. -/
theorem RInv.all_in {r0 : Int} {i : Nat} {st : FS} (h : RInv r0 i st) : ∀ (k : Nat), k ≤ st.l.length → (⟨0, 1⟩ : Hd) ∈ inSet ⟨0, 1⟩ (st.l.take k) ∧ ∀ j e, j < k → st.l[j]? = some e → e.h ∈ inSet ⟨0, 1⟩ (st.l.take k)
  | 0, _ => ⟨by simp [inSet], fun j e hj => by omega⟩
  | k + 1, hk => by
    obtain ⟨h0, h1⟩ := h.all_in k (by omega)
    rw [inSet_snoc _ _ _ (by omega)]
    refine ⟨grow1_mono h0, fun j e hj he => ?_⟩
    by_cases hjk : j < k
    · exact grow1_mono (h1 j e hjk he)
    · have hjk' : j = k := by omega
      subst hjk'
      have hee : st.l[j] = e := (List.getElem?_eq_some_iff.1 he).2
      rw [hee]
      have hme : e ∈ st.l := List.mem_of_getElem? he
      by_cases ho : 0 < e.ord
      · obtain ⟨p, hp, hph, _, hpo⟩ := (h.each e hme).2.2.2.2 ho
        obtain ⟨m, hm, hpm⟩ := List.getElem_of_mem hp
        have hmj : m < j := by
          rcases Nat.lt_trichotomy m j with hlt | heq | hgt
          · exact hlt
          · subst heq; rw [hee] at hpm; subst hpm; omega
          · have := (List.pairwise_iff_getElem.1 h.ok.ord) j m (by omega) hm hgt
            rw [hee, hpm] at this
            omega
        have hin := h1 m p hmj (by rw [List.getElem?_eq_getElem hm, hpm])
        rw [hph] at hin
        unfold grow1
        rw [if_pos hin]
        split
        · assumption
        · exact List.mem_cons_self
      · obtain ⟨t, ht⟩ := h.head
        have hb := h.ok.bnd e hme
        have he0 : e = ⟨⟨0, 1⟩, 3, r0, 1, ⟨0, 0⟩, 0⟩ := Go.Proofs.Ytoeeobebkalglaa.ord_inj h.ok.ord hme (by rw [ht]; exact List.mem_cons_self) (by simp only; omega)
        rw [he0]
        exact grow1_mono h0
end Go.Ease
